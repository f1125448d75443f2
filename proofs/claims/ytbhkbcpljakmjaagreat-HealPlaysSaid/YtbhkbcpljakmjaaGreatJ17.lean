/-
  Regions that draw their order, inside a wide fence (a round, or the activation of a function that calls yield): reads and effects by the plain laws, a forced tail that may call yield. No program stands here.
  Contracts of package fletch: Words.
  Contracts of package fletch: more, Sum.
-/
import Derived.Test.YtbhkbcpljakmjaaGreatJ11
import Derived.Test.YtbhkbcpljakmjaaGreatJ14
import Derived.Test.YtbhkbcpljakmjaaGreatJ08
import Derived.RangeFuncNested
import Derived.RangeFuncBound
import Derived.RangeFuncCalls
import Derived.RangeFuncLeaves
import Derived.Shelf.RegionOpen
import Derived.OwnWalkIn
import Derived.TacticsInMore
import Derived.LoopNIn
import Derived.LoopIn
import Derived.Test.YtbhkbcpljakmjaaGreatJ16
import Derived.Test.YtbhkbcpljakmjaaGreatJ01
import Derived.Test.YtbhkbcpljakmjaaGreatJ15
import Derived.Test.YtbhkbcpljakmjaaGreatJ12
namespace Go.Proofs.YtbhkbcpljakmjaaGreat
set_option linter.unusedVariables false
set_option linter.unusedSimpArgs false
open Go.RowKit
structure Wide (F : Fence) : Prop where
 fn : ∀ f, F.fn f
 depth : F.depth = none
 calls : ∀ {n : Nat} {P : Program} {f : FuncId} {args : Array Value} {w : World} {R : Ending → World → Prop}, Calls P f args w R → CallsIn F n P f args w R
 rows : ∀ {n : Nat} {P : Program} {row : String} {args : Array Value} {w : World} {R : Value → World → Prop}, Rows P row args w R → RowsIn F n P row args w R
theorem wide_wide : Wide Fence.wide :=
 ⟨fun _ => trivial, rfl, fun h => callsIn_wide.2 h, fun h c cs _ => let ⟨v, w', r, s⟩ := h c cs; ⟨v, w', r, stepsIn_wide.2 s⟩⟩
theorem Wide.inRound {F : Fence} (h : Wide F) (l : Nat) : Wide (F.inRound l) := ⟨h.fn, h.depth, fun hh => CallsIn.inRound l (h.calls hh), fun hh => h.rows hh⟩
def noDeferB (o : Oper) : Bool := match o.op with | .defer _ => false | _ => true
theorem semAt_plain {o : Oper} (h : noDeferB o = true) (ro : Option Nat) (ρ : Operand → Value) : o.semAt ro ρ = execOp ρ o := by
 cases ro with
 | none => rfl
 | some l =>
  refine Oper.semAt_some l ρ o (fun c hc => ?_)
  unfold noDeferB at h
  rw [hc] at h
  cases h
section
variable {F : Fence} {m : Nat} {P : Program} {ops : Array Oper} {md : Region.Mode} {S : World → Prop} {eff : Nat → Bool}
theorem wpIn_of_wpn {o : Oper} {a : Act} {w : World} {K : Act → World → Prop} {Q : Exit → Act → World → Prop} (hF : Wide F) (hs : noDeferB o = true) (h : Oper.wpn P o a w K) : o.wpIn F m P a w K Q := by
 refine ⟨fun f _ => hF.fn f, ?_⟩
 rw [semAt_plain hs]
 unfold Oper.wpn Oper.wp at h
 have hd : F.depth.isSome = true → 1 ≤ m := fun hd => by rw [hF.depth] at hd; cases hd
 generalize (execOp a.eval o).run P w = r at *
 cases r with
 | ok x w' =>
  cases x <;> simp only [Oper.upon, Oper.uponIn] at h ⊢
  case value v => exact h
  case skip => exact h
  case defer d => exact h
  case enter f args =>
   refine ⟨hd, CallsIn.mono (hF.calls h) (fun e w'' he => ?_)⟩
   cases e with
   | returned v => exact he
   | panicked c => exact absurd he nrm_false
   | outgrown => exact absurd he nrm_out
  case row row args => exact ⟨hd, hF.rows h⟩
 | halt x w' => cases x <;> simp only [Oper.upon, Oper.uponIn] at h ⊢; exact absurd h nrm_false
theorem wpIn_of_quiet {o : Oper} {a : Act} {w : World} {K : Act → Prop} {Q : Exit → Act → World → Prop} (hF : Wide F) (hs : noDeferB o = true) (hw : S w) (hN : NoEnter P o) (h : o.quiet P a S K) : o.wpIn F m P a w (fun a' w' => w' = w ∧ K a') Q := by
 refine ⟨fun f _ => hF.fn f, ?_⟩
 rw [semAt_plain hs]
 obtain ⟨v, h1, h2⟩ := h
 have h3 := h1 w hw
 unfold Oper.quietAt at h3
 have hN' := hN a.eval w
 generalize (execOp a.eval o).run P w = r at *
 cases r with
 | ok n w' =>
  cases n <;> simp only [Oper.quietUpon] at h3 <;> simp only [Oper.uponIn]
  case value u => obtain ⟨rfl, rfl⟩ := h3; exact ⟨rfl, h2⟩
  case skip => obtain ⟨rfl, rfl⟩ := h3; exact ⟨rfl, h2⟩
  case enter f args => exact absurd (hN' _ _ rfl) (by simp [entersB])
 | halt x w' => simp only [Oper.quietUpon] at h3
theorem wpOpIn_of_efOpG {i : Nat} {a : Act} {K : Act → World → Prop} {K' : Act → World → Prop} {Q' : Exit → Act → World → Prop} {w : World} (hF : Wide F) (hdf : ∀ o, ops[i]? = some o → noDeferB o = true) (hw : S w)
 (hne : ∀ o, ops[i]? = some o → eff i = false → NoEnter P o) (h : ∀ a w, S w → K a w → K' a w) (hh : G.efOp P ops S eff i K a w) : wpOpIn F m P ops Q' i K' a w := by
 unfold G.efOp at hh
 unfold wpOpIn
 split
 · rename_i ho; simp only [ho] at hh; exact h _ _ hw hh
 · rename_i o ho
   simp only [ho] at hh
   cases he : eff i with
   | true =>
    simp only [he, if_true] at hh
    have hwn := hh.1
    simp only [hwn, if_true]
    exact Oper.wpIn_mono (fun a' w' h' => h _ _ h'.1 h'.2) (wpIn_of_wpn hF (hdf o ho) hh.2)
   | false =>
    simp only [he, Bool.false_eq_true, if_false] at hh
    split
    · rename_i hwn
      simp only [hwn, if_true] at hh
      exact Oper.wpIn_mono (fun a' w' h' => by obtain ⟨rfl, h'⟩ := h'; exact h _ _ hw h') (wpIn_of_quiet hF (hdf o ho) hw (hne o ho he) hh)
    · rename_i hwn; simp only [hwn] at hh; exact ⟨fun f _ => hF.fn f, h _ _ hw hh⟩
theorem wpAnyIn_of_effG {n g : Nat} {L : Array Bool → Act → World → Prop} {Q' : Exit → Act → World → Prop} (hF : Wide F) (hdf : ∀ (i : Nat) (o : Oper), ops[i]? = some o → noDeferB o = true) (hne : ∀ (i : Nat) (o : Oper), ops[i]? = some o → i < n → eff i = false → NoEnter P o)
 (hL : ∀ listed a w, S w → L listed a w → wpAnyIn F m P md ops Q' g listed a w) :
 ∀ (f : Nat) (listed : Array Bool) (a : Act) (w : World), S w → G.wpAnyE P md ops S eff n L f listed a w → wpAnyIn F m P md ops Q' (f + g) listed a w
 | 0, listed, a, w, hw, h => by rw [Nat.zero_add]; exact hL _ _ _ hw h
 | f + 1, listed, a, w, hw, h => by
   rw [show f + 1 + g = (f + g) + 1 by omega]
   exact ⟨fun h0 => absurd h0 h.1, fun i hi => wpOpIn_of_efOpG hF (hdf i) hw (fun o ho he => hne i o ho (h.2 i hi).1 he) (fun a' w' hw' h' => wpAnyIn_of_effG hF hdf hne hL f _ a' w' hw' h') (h.2 i hi).2⟩
theorem wpAnyIn_of_seq {Q' : Exit → Act → World → Prop} : ∀ (l : List Oper) (k : Nat) (listed : Array Bool) (a : Act) (w : World), (∀ j, l[j]? = ops[k + j]?) →
 Region.seqB md ops l.length k listed = true → wpListIn F m P ops Q' l a w → wpAnyIn F m P md ops Q' l.length listed a w
 | [], _, _, _, _, _, hB, h => ⟨by simpa [Region.seqB] using hB, h⟩
 | o :: l, k, listed, a, w, hl, hB, h => by
   have h0 : ops[k]? = some o := by simpa using (hl 0).symm
   simp only [List.length_cons, Region.seqB, Bool.and_eq_true, decide_eq_true_eq] at hB
   refine ⟨fun h1 => (by rw [hB.1] at h1; cases h1), fun i hi => ?_⟩
   rw [hB.1] at hi
   have hik : i = k := by simpa using hi
   subst hik
   have hw : wpOpIn F m P ops Q' i (wpListIn F m P ops Q' l) a w := by unfold wpOpIn; simp only [h0]; exact h
   exact wpOpIn_mono (fun a' w' h' => wpAnyIn_of_seq l (i + 1) _ a' w' (fun j => by have := hl (j + 1); simpa [Nat.add_assoc, Nat.add_comm 1 j] using this) hB.2 h') hw
theorem all_plain {l : List Oper} (h : l.all noDeferB = true) : ∀ (i : Nat) (o : Oper), l.toArray[i]? = some o → noDeferB o = true := fun i o ho => by
 rw [List.getElem?_toArray] at ho
 exact List.all_eq_true.1 h o (List.mem_of_getElem? ho)
theorem wpIn_region_effG {id : Nat} {Q : Exit → Act → World → Prop} {a : Act} {w : World} {l : List Oper} (hF : Wide F) (S : World → Prop) (cuts : List Nat) (n : Nat) (hm : P.follows .mixedOrders = true) (hD : l.all noDeferB = true) (hB : Region.lexTailB .any l.toArray n = true)
 (hE : G.effB .any l.toArray n (fun i => cuts.contains i) = true) (hS : S w.drew)
 (h : G.wpLexE P l.toArray S (fun i => cuts.contains i) (fun a' w' => wpListIn F m P l.toArray Q (l.drop n) a' w') (l.take n) 0 a w.drew) : (Code.region id l.toArray true).wpIn F m P Q a w := by
 obtain ⟨hne, hch⟩ := G.effB_spec (P := P) hE
 simp only [Region.lexTailB, Bool.and_eq_true, decide_eq_true_eq] at hB
 obtain ⟨⟨⟨⟨hsel, hn⟩, hs⟩, hc⟩, hlex⟩ := hB
 have hn' : n < l.length := by simpa using hn
 have htl : (l.take n).length = n := by simp; omega
 have hdl : (l.drop n).length = l.toArray.size - n := by simp
 have inv0 : HeadInv .any l.toArray n (Array.replicate l.toArray.size false) :=
  ⟨by simp, fun j oj _ hl => (by rw [getD_replicate_false] at hl; cases hl), fun t _ ht => getD_in (by simpa using ht) (getD_replicate_false _ _)⟩
 have einv0 : G.EffInv l.toArray (fun i => cuts.contains i) 0 (Array.replicate l.toArray.size false) := ⟨fun j hj => by omega, fun j _ hj _ => getD_in (by simpa using hj) (getD_replicate_false _ _)⟩
 have H := G.wpAnyE_lex (md := .any) (g := l.toArray.size - n) hsel hs hc hn hne hch (l.take n) 0 _ a w.drew hS (fun j hj => by
  have hj' : j < n := by rw [htl] at hj; exact hj
  simp [hj']) (by simpa using htl) inv0 einv0 (by rw [htl]; exact hlex) h
 refine wpIn_region_any hm ?_
 have := wpAnyIn_of_effG (F := F) (m := m) (Q' := Q) (g := l.toArray.size - n) hF (all_plain hD) hne (fun listed a' w' _ hL => by
  have := wpAnyIn_of_seq (F := F) (m := m) (md := .any) (Q' := Q) (l.drop n) n listed a' w' (fun j => by simp [List.getElem?_drop]) (by rw [hdl]; exact hL.1) hL.2
  rwa [hdl] at this) _ _ _ _ hS H
 rw [htl, show n + (l.toArray.size - n) = l.toArray.size by omega] at this
 exact this
theorem wpOpIn_of_efOpPl {i : Nat} {a : Act} {K : Act → World → Prop} {K' : Act → World → Prop} {Q' : Exit → Act → World → Prop} {w : World} (hF : Wide F) (hdf : ∀ o, ops[i]? = some o → noDeferB o = true) (hw : S w)
 (hne : ∀ o, ops[i]? = some o → eff i = false → NoEnter P o) (h : ∀ a w, S w → K a w → K' a w) (hh : Pl.efOp P ops S eff i K a w) : wpOpIn F m P ops Q' i K' a w := by
 unfold Pl.efOp at hh
 unfold wpOpIn
 split
 · rename_i ho; simp only [ho] at hh; exact h _ _ hw hh
 · rename_i o ho
   simp only [ho] at hh
   split
   · rename_i hwn
     simp only [hwn, if_true] at hh
     cases he : eff i with
     | true =>
      simp only [he, if_true] at hh
      exact Oper.wpIn_mono (fun a' w' h' => h _ _ h'.1 h'.2) (wpIn_of_wpn hF (hdf o ho) hh)
     | false =>
      simp only [he, Bool.false_eq_true, if_false] at hh
      exact Oper.wpIn_mono (fun a' w' h' => by obtain ⟨rfl, h'⟩ := h'; exact h _ _ hw h') (wpIn_of_quiet hF (hdf o ho) hw (hne o ho he) hh)
   · rename_i hwn; simp only [hwn] at hh; exact ⟨fun f _ => hF.fn f, h _ _ hw hh⟩
theorem wpAnyIn_of_effPl {Q : Act → World → Prop} {Q' : Exit → Act → World → Prop} (hF : Wide F) (hdf : ∀ (i : Nat) (o : Oper), ops[i]? = some o → noDeferB o = true) (hne : ∀ (i : Nat) (o : Oper), ops[i]? = some o → eff i = false → NoEnter P o) (hQ : ∀ a w, Q a w → Q' .normal a w) :
 ∀ (f : Nat) (listed : Array Bool) (a : Act) (w : World), S w → Pl.wpAnyE P md ops S eff (fun listed a w => Region.ready md ops listed = [] ∧ Q a w) f listed a w → wpAnyIn F m P md ops Q' f listed a w
 | 0, listed, a, w, _, h => ⟨h.1, hQ _ _ h.2⟩
 | f + 1, listed, a, w, hw, h =>
  ⟨fun h0 => absurd h0 h.1, fun i hi => wpOpIn_of_efOpPl hF (hdf i) hw (fun o ho he => hne i o ho he) (fun a' w' hw' h' => wpAnyIn_of_effPl hF hdf hne hQ f _ a' w' hw' h') (h.2 i hi)⟩
theorem wpIn_region_plan {id : Nat} {Q : Exit → Act → World → Prop} {a : Act} {w : World} {l : List Oper} (hF : Wide F) (S : World → Prop) (cuts : List Nat) (p : Pl.Plan) (hm : P.follows .mixedOrders = true) (hD : l.all noDeferB = true)
 (hB : Pl.regionB .any l.toArray (fun i => cuts.contains i) p = true) (hS : S w.drew)
 (h : Pl.wpPlan P l.toArray S (fun i => cuts.contains i) (fun a' w' => Q .normal a' w') p a w.drew) : (Code.region id l.toArray true).wpIn F m P Q a w := by
 simp only [Pl.regionB, Bool.and_eq_true, decide_eq_true_eq] at hB
 obtain ⟨⟨⟨h1, h2⟩, h3⟩, h4⟩ := hB
 have hne : ∀ (i : Nat) (o : Oper), l.toArray[i]? = some o → cuts.contains i = false → NoEnter P o := fun i o ho he => by
  have := List.all_eq_true.1 h3 i (List.mem_range.2 (Array.getElem?_eq_some_iff.1 ho).1)
  simp only [ho, he, Bool.false_or] at this
  exact plain_ok this
 have H := Pl.wpAnyE_plan (md := .any) h1 hne p _ a w.drew h4 hS h
 refine wpIn_region_any hm ?_
 have := wpAnyIn_of_effPl (F := F) (m := m) (Q' := Q) hF (all_plain hD) hne (fun _ _ h => h) _ _ _ _ hS H
 rwa [h2] at this
theorem wpn_of_quiet {o : Oper} {a : Act} {w : World} {K : Act → Prop} (hw : S w) (hp : plainB o = true) (h : o.quiet P a S K) : Oper.wpn P o a w (fun a' w' => w' = w ∧ K a') := by
 obtain ⟨v, h1, h2⟩ := h
 have h3 := h1 w hw
 unfold Oper.quietAt at h3
 have hN := plain_ok (P := P) hp a.eval w
 unfold Oper.wpn Oper.wp
 generalize (execOp a.eval o).run P w = r at *
 cases r with
 | ok n w' =>
  cases n <;> simp only [Oper.quietUpon] at h3 <;> simp only [Oper.upon]
  case value u => obtain ⟨rfl, rfl⟩ := h3; exact ⟨rfl, h2⟩
  case skip => obtain ⟨rfl, rfl⟩ := h3; exact ⟨rfl, h2⟩
  case enter f args => exact absurd (hN _ _ rfl) (by simp [entersB])
 | halt x w' => simp only [Oper.quietUpon] at h3
theorem plan_read {K : Act → World → Prop} {l rest : List Oper} {o : Oper} {k : Nat} {a : Act} {w : World} (hw : S w) (he : eff k = true) (hd : l.drop k = o :: rest) (hp : plainB o = true)
 (h : wpQuiet P l.toArray S (fun a' => K a' w) [o] a) : Pl.efOp P l.toArray S eff k K a w := by
 unfold Pl.efOp
 simp only [Pl.drop_get hd, he, if_true]
 simp only [wpQuiet] at h
 split
 · rename_i hwn
   simp only [hwn, if_true] at h
   exact wpn_mono (fun a' w' h' => by obtain ⟨rfl, h'⟩ := h'; exact ⟨hw, h'⟩) (wpn_of_quiet hw hp h)
 · rename_i hwn
   simp only [hwn] at h
   exact h
structure Held (p : Prop) : Prop where
 out : p
theorem quiet_held {K : Act → Prop} {l : List Oper} {a : Act} (h : wpQuiet P ops S (fun a' => Held (K a')) l a) : wpQuiet P ops S K l a := by
 induction l generalizing a with
 | nil => exact h.out
 | cons o l ih =>
  simp only [wpQuiet] at h ⊢
  split
  · rename_i hw
    simp only [hw, if_true] at h
    exact Oper.quiet_mono (fun a' h' => ih h') h
  · rename_i hw
    simp only [hw] at h
    exact ih h
theorem plan_readH {K : Act → World → Prop} {l rest : List Oper} {o : Oper} {k : Nat} {a : Act} {w : World} (hw : S w) (he : eff k = true) (hd : l.drop k = o :: rest) (hp : plainB o = true)
 (h : wpQuiet P l.toArray S (fun a' => Held (K a' w)) [o] a) : Pl.efOp P l.toArray S eff k K a w := plan_read hw he hd hp (quiet_held h)
theorem plan_takeH {Q : Act → World → Prop} {r : Pl.Plan} {l : List Oper} {k : Nat} {a : Act} {w : World} (m : Nat) (he : (List.range m).all (fun j => !eff (k + j)) = true) (hm : decide (k + m ≤ l.length) = true)
 (h : wpQuiet P l.toArray S (fun a' => Held (Pl.wpPlan P l.toArray S eff Q r a' w)) ((l.drop k).take m) a) : Pl.wpPlan P l.toArray S eff Q (Pl.Plan.seg k m r) a w := Pl.wpPlan_take m he hm (quiet_held h)
theorem plan_skip {Q : Act → World → Prop} {r : Pl.Plan} {l rest : List Oper} {o : Oper} {d : Option Tmp} {k : Nat} {a : Act} {w : World} (hd : l.drop k = o :: rest) (ho : o.dst = d) (hwn : Region.wanted o (yielded l.toArray a.tmps) = false)
 (h : Pl.wpPlan P l.toArray S eff Q r (a.put d undef) w) : Pl.wpPlan P l.toArray S eff Q (.op k r) a w := Pl.efOp_skip hd hwn (by rw [ho]; exact h)
theorem lex_read {Q : Act → World → Prop} {o : Oper} {rest : List Oper} {k : Nat} {a : Act} {w : World} (hw : S w) (he : eff k = true) (hg : o.guard = none) (hp : plainB o = true)
 (h : wpQuiet P ops S (fun a' => G.wpLexE P ops S eff Q rest (k + 1) a' w) [o] a) : G.wpLexE P ops S eff Q (o :: rest) k a w := by
 simp only [G.wpLexE, he, if_true]
 have hwn : Region.wanted o (yielded ops a.tmps) = true := by simp only [Region.wanted, hg]
 simp only [wpQuiet, hwn, if_true] at h
 exact ⟨hwn, wpn_mono (fun a' w' h' => by obtain ⟨rfl, h'⟩ := h'; exact ⟨hw, h'⟩) (wpn_of_quiet hw hp h)⟩
end
end Go.Proofs.YtbhkbcpljakmjaaGreat

namespace Go.Proofs.YtbhkbcpljakmjaaGreat
set_option linter.unusedVariables false
set_option linter.unusedSimpArgs false
open Go.RowKit
attribute [local go_sem] Oper.semAt_some
def KB (V : Nat → Prop) (W W' : World) : Prop := W.heap.size ≤ W'.heap.size ∧ ∀ b t cs, ¬ V b → Blk W b t cs → Blk W' b t cs
theorem KB.trans {V : Nat → Prop} {A B C : World} (h : KB V A B) (k : KB V B C) : KB V A C := ⟨Nat.le_trans h.1 k.1, fun b t cs hn hb => k.2 b t cs hn (h.2 b t cs hn hb)⟩
theorem kb_putObj {V : Nat → Prop} (W : World) (l : Nat) (o o' : Obj) (hl : W.heap[l]? = some o) (ho : o.isCells = false) : KB V W (W.putObj l o') :=
 ⟨by simp, fun b t cs _ hb => (World.putObj_heap_other (fun e => by subst e; unfold Blk at hb; rw [hb] at hl; cases hl; cases ho)).trans hb⟩
def wordE (x : Nat) : Array Value := #[.int .u64 x]
def posW (W : World) (b : Nat) : Nat := match W.cell? ⟨b, 1, none⟩ with
 | some (.int _ p) => p.toNat
 | _ => 0
theorem posW_at {W : World} {b p : Nat} {l : List UInt8} (h : RdAt W b l p) : posW W b = p := by unfold posW; rw [h.c1]; rfl
theorem padL_4 (s : List UInt8) : (padL s 4).length % 4 = 0 ∧ (padL s 4).length ≤ s.length + 3 := by
 unfold padL
 rw [if_pos (by omega), List.length_append, List.length_replicate]
 unfold padN
 have : ((4 : Int).toNat) = 4 := rfl
 rw [this]
 omega
theorem words_len (s : List UInt8) : (wordsL s).length = (padL s 4).length / 4 := by simp [wordsL, wordsP]
theorem words_at {s : List UInt8} {k : Nat} (hk : k < (wordsL s).length) : (wordsL s)[k]? = some (rdN (padL s 4) (4 * k) 4) := by
 rw [words_len] at hk
 unfold wordsL wordsP
 rw [List.getElem?_map, List.getElem?_range hk]
 rfl
theorem words_lt {s : List UInt8} : ∀ x ∈ wordsL s, x < 4294967296 := by
 intro x hx
 unfold wordsL wordsP at hx
 obtain ⟨k, _, rfl⟩ := List.mem_map.1 hx
 have := rdN_lt (padL s 4) (4 * k) 4
 omega
set_option maxRecDepth 20000 in
set_option maxHeartbeats 1000000 in
theorem words_seq (n : Nat) {w : World} {V : Nat → Prop} {b0 : Nat} {s : List UInt8} (h0 : w.cell? ⟨b0, 0, none⟩ = some (str s)) (hl : s.length ≤ 140737488351000) (hV : ∀ b, V b → b < w.heap.size) :
 SeqCells Fence.wide n Tryz.prog 92 #[.pointer (some ⟨b0, 0, none⟩)] wordE (KB V) (wordsL s) w := by
 intro l J W hb hJ hY hJ0
 have c0 := keepF h0 hb
 have HPD := Lib.hid (pad_any s 4 W (by omega))
 have hp4 := padL_4 s
 obtain ⟨P, hP⟩ : ∃ P, padL s 4 = P := ⟨_, rfl⟩
 have hwl := words_len s
 have hwa := fun k (hk : k < (wordsL s).length) => words_at hk
 rw [hP] at HPD hp4 hwl hwa
 have HV : Hid (∀ b, V b → b < W.heap.size) := Lib.hid fun b h => Nat.lt_of_lt_of_le (hV b h) hb.size
 have HJ := Lib.hid hJ
 have HY := Lib.hid hY
 have HJ0 := Lib.hid hJ0
 obtain ⟨ws, hws⟩ : ∃ ws, wordsL s = ws := ⟨_, rfl⟩
 have hlt := @words_lt s
 rw [hws] at hwl hwa HY hlt
 rw [hws]
 have HW := Lib.hid (And.intro hwl (And.intro hwa hlt))
 obtain ⟨hp41, hp42⟩ := hp4
 have hPl : P.length ≤ 140737488351232 := by omega
 clear h0 hV hb hJ hY hJ0 hwl hwa hlt hws hP
 show CallsIn Fence.wide n Tryz.prog 92 #[.func (.yield l) #[] #[], .pointer (some ⟨b0, 0, none⟩)] W _
 refine callsIn_of_wp Tryz.func92 rfl trivial ?_ rfl
 simp only [Tryz.ntmps92, List.size_toArray, List.length_cons, List.length_nil, Nat.reduceAdd, Nat.reduceSub, Array.replicate_succ, Array.replicate_zero, List.push_toArray, List.append_toArray, List.nil_append, List.cons_append]
 gi_wp2_with fail
 refine ⟨trivial, fun h => (by cases h), callsIn_wide.2 (HPD.out.mono ?_)⟩
 rintro e w1 ⟨rfl, hb1⟩
 have HB1 := Lib.hid hb1
 have HNW := Lib.hid (new_any P w1 hPl)
 clear hb1
 gi_wp2_with fail
 refine ⟨trivial, fun h => (by cases h), callsIn_wide.2 (HNW.out.mono ?_)⟩
 rintro e w2 ⟨rfl, hR2, hb2⟩
 have HB2 := Lib.hid (keep_below hb2 HB1.out)
 have HR2 := Lib.hid hR2
 obtain ⟨rb, hrb⟩ : ∃ rb, w1.heap.size = rb := ⟨_, rfl⟩
 have hge : W.heap.size ≤ rb := by rw [← hrb]; exact HB1.out.size
 rw [hrb] at HR2
 rw [hrb]
 have HRB := Lib.hid hge
 clear hb2 hR2 hrb hge
 gi_wp2_with fail
 gi_loopw [4] (fun _ wr => ∃ k : Nat, k ≤ ws.length ∧ RdAt wr rb P (4 * k) ∧ J (ws.take k) wr ∧ W.heap.size ≤ wr.heap.size) (fun _ wr => P.length - posW wr rb)
 case atStart => exact ⟨0, Nat.zero_le _, HR2.out, HJ.out.below HJ0.out HB2.out, HB2.out.size⟩
 case round =>
  obtain ⟨k, hk, hrd, hj, hsz⟩ := hrel
  have HK := Lib.hid (And.intro hrd (And.intro hj hsz))
  have HLF := Lib.hid (left_any rb (4 * k) P wr hrd)
  have hwl := HW.out.1
  clear hrd hj hsz
  by_cases hlt : k < ws.length
  · have hd1 : decide (4 * (k : Int) < (P.length : Int)) = true := decide_eq_true (by omega)
    have HKL := Lib.hid hlt
    clear hlt hwl
    gi_wp2_with fail
    refine ⟨trivial, fun h => (by cases h), callsIn_wide.2 (HLF.out.mono ?_)⟩
    rintro e w3 ⟨rfl, j, rfl⟩
    have hrd3 := HK.out.1.drewN j
    have HU := Lib.hid (rU32_any rb (4 * k) P _ hrd3)
    have hle4 : 4 * k + 4 ≤ P.length := by have := HW.out.1; have := HKL.out; omega
    have hnp : nbPos P (4 * k) 4 = 4 * (k + 1) := by unfold nbPos; rw [if_neg (by omega)]; omega
    have hxl : rdN P (4 * k) 4 < 4294967296 := by have := rdN_lt P (4 * k) 4; omega
    have hwk := HW.out.2.1 k HKL.out
    rw [hnp] at HU
    obtain ⟨x, hx⟩ : ∃ x, rdN P (4 * k) 4 = x := ⟨_, rfl⟩
    obtain ⟨ne, hne⟩ : ∃ ne, nbErr P (4 * k) 4 = ne := ⟨_, rfl⟩
    rw [hx] at HU hxl hwk
    rw [hne] at HU
    have hJ3 : J (ws.take k) (wr.drewN j) := HJ.out.below HK.out.2.1 ⟨rfl, rfl, rfl, Nat.le_refl _, fun _ _ => rfl⟩
    have HJ3 := Lib.hid hJ3
    have HRD3 := Lib.hid hrd3
    have HTK : Hid (ws.take (k + 1) = ws.take k ++ [x]) := Lib.hid (by rw [List.take_add_one, hwk]; rfl)
    clear hrd3 hJ3 hwk hx hne hnp hd1
    gi_wp2_with fail
    refine ⟨trivial, fun h => (by cases h), callsIn_wide.2 (HU.out.mono ?_)⟩
    rintro e w4 ⟨rfl, hrd4, hg4⟩
    have hszd : (wr.drewN j).heap.size = wr.heap.size := rfl
    have hJ4 : J (ws.take k) w4 := HJ.out _ (wr.drewN j) w4 (some rb) HJ3.out hg4 fun r e => by
     cases e
     exact ⟨HRB.out, _, HRD3.out.1, rfl⟩
    obtain ⟨fn, tmps, assign, body, hy, hR⟩ := HY.out (ws.take k) x w4 hJ4 (by rw [← HTK.out]; exact List.take_prefix _ _)
    dsimp only [wordE] at hy
    have HR := Lib.hid hR
    have HRD4 := Lib.hid (And.intro hrd4 (Nat.le_trans HK.out.2.2 (show wr.heap.size ≤ w4.heap.size from hg4.size)))
    clear hrd4 hg4 hJ4 hR hszd HU
    gi_wp2_with fail
    refine ⟨fun h => (by cases h), HR.out.mono ?_⟩
    rintro e w5 ⟨rfl, hJ5, hk5⟩
    have hrd5 : RdAt w5 rb P (4 * (k + 1)) := ⟨hk5.2 rb _ _ (fun h => by have := HV.out rb h; have := HRB.out; omega) HRD4.out.1.1, HRD4.out.1.2⟩
    have HKF := Lib.hid (And.intro hrd5 (And.intro hJ5 (Nat.le_trans HRD4.out.2 hk5.1)))
    clear hrd5 hJ5 hk5 hy
    gi_wp2_with fail
    go_roundw
    case rel => exact ⟨k + 1, HKL.out, HKF.out.1, by rw [HTK.out]; exact HKF.out.2.1, HKF.out.2.2⟩
    case measure => rw [posW_at HKF.out.1, posW_at HK.out.1]; omega
  · obtain rfl : k = ws.length := by omega
    have hd1 : decide (4 * (ws.length : Int) < (P.length : Int)) = false := decide_eq_false (by omega)
    clear hlt hwl
    gi_wp2_with fail
    refine ⟨trivial, fun h => (by cases h), callsIn_wide.2 (HLF.out.mono ?_)⟩
    rintro e w3 ⟨rfl, j, rfl⟩
    have HJF : Hid (J ws (wr.drewN j)) := Lib.hid (by
     have : J (ws.take ws.length) (wr.drewN j) := HJ.out.below HK.out.2.1 ⟨rfl, rfl, rfl, Nat.le_refl _, fun _ _ => rfl⟩
     rwa [List.take_length] at this)
    gi_wp2_with fail
    go_end0
    exact ⟨⟨_, rfl⟩, HJF.out⟩
end Go.Proofs.YtbhkbcpljakmjaaGreat

namespace Go.Proofs.YtbhkbcpljakmjaaGreat
set_option linter.unusedVariables false
set_option linter.unusedSimpArgs false
open Go.RowKit
attribute [local go_sem] Oper.semAt_some
theorem words_any (s : List UInt8) (w : World) : Calls Tryz.prog 66 #[str s] w fun e w' =>
 e = .returned (.func (.func 92) #[] #[.pointer (some ⟨w.heap.size, 0, none⟩)]) ∧ w'.cell? ⟨w.heap.size, 0, none⟩ = some (str s) ∧ Below w.heap.size w w' := by
 go_enter Tryz.func66, Tryz.ntmps66
 go_wp2_with fail
 go_ret
 exact ⟨rfl, cell_new' (by simp) rfl, keep_alloc (Below.refl _ _) _⟩
theorem wrap_sum (a b : Nat) : IntKind.u64.wrap ((a : Int) + (b : Int)) = (((a + b) % M64 : Nat) : Int) := by
 have : (a : Int) + (b : Int) = ((a + b : Nat) : Int) := by omega
 rw [this, IntKind.wrap_u64]
 rfl
def fpart (x : Nat × Nat × Nat × Nat) (w : Nat) : Nat → (Nat × Nat × Nat × Nat) × Nat
 | 0 => (x, w)
 | 1 => (((x.1 + w) % M64, x.2.1, x.2.2.1, x.2.2.2), (x.1 + w) % M64)
 | 2 => (((x.1 + w) % M64, (x.2.1 + (x.1 + w) % M64) % M64, x.2.2.1, x.2.2.2), (x.2.1 + (x.1 + w) % M64) % M64)
 | 3 => (((x.1 + w) % M64, (x.2.1 + (x.1 + w) % M64) % M64, (x.2.2.1 + (x.2.1 + (x.1 + w) % M64) % M64) % M64, x.2.2.2), (x.2.2.1 + (x.2.1 + (x.1 + w) % M64) % M64) % M64)
 | _ => (fstep x w, (fstep x w).2.2.2)
set_option maxRecDepth 20000 in
set_option maxHeartbeats 1000000 in
theorem fmore_any (x : Nat × Nat × Nat × Nat) (s : List UInt8) (hl : s.length ≤ 140737488351000) (w : World) : Calls Tryz.prog 37 #[.agg (fcells x), str s] w fun e w' => e = .returned (.agg (fcells ((wordsL s).foldl fstep x))) ∧ Below w.heap.size w w' := by
 obtain ⟨w2, hw2⟩ : ∃ z, (w.alloc (.cells (fcells x) 29)).alloc (.cells #[.int .u64 0, .int .u64 0, .int .u64 0, .int .u64 0] 29) = z := ⟨_, rfl⟩
 have B1 : Blk w2 w.heap.size 29 (fcells x) := by rw [← hw2]; exact (Blk.new _ _ _).alloc _
 have B2 : Blk w2 (w.heap.size + 1) 29 #[.int .u64 0, .int .u64 0, .int .u64 0, .int .u64 0] := by rw [← hw2]; exact Blk.new2 _ _ _ _
 have D2 : Below w.heap.size w w2 := by rw [← hw2]; exact keep_alloc (keep_alloc (Below.refl _ _) _) _
 have HB1 := Lib.hid B1
 have HB2 := Lib.hid B2
 have HD2 := Lib.hid D2
 have HW2 := Lib.hid hw2
 have HWD := Lib.hid (words_any s w2)
 clear B1 B2 D2 hw2
 refine (callsIn_wide (n := 9)).1 ?_
 refine callsIn_of_wp_marks Tryz.func37 rfl trivial (wpIn_wide.2 ?_) rfl
 simp only [Tryz.ntmps37, List.size_toArray, List.length_cons, List.length_nil, Nat.reduceAdd, Nat.reduceSub, Array.replicate_succ, Array.replicate_zero, List.push_toArray, List.append_toArray, List.nil_append, List.cons_append]
 go_wp2_with fail
 rw [HW2.out]
 refine HWD.out.mono ?_
 rintro e w3 ⟨rfl, hc3, hb3⟩
 have b13 := HB1.out.below hb3 HB1.out.lt
 have b23 := HB2.out.below hb3 HB2.out.lt
 have d3 := keep_below hb3 HD2.out
 have HLT : Hid (w.heap.size + 1 < w3.heap.size) := Lib.hid b23.lt
 have HS := Lib.hid (words_seq (9 - 1) (V := fun b => b = w.heap.size) hc3 hl (fun b h => by rw [h]; exact b13.lt))
 have H0 := Lib.hid (And.intro b13 (And.intro b23 d3))
 clear b13 b23 d3 hc3 hb3
 go_wp2_with fail
 refine (wpIn_wide (n := 9)).1 ?_
 refine wpIn_range_cells rfl (by decide) (gf := 92) (lb := _) rfl trivial (enters_of Tryz.func92 (by kernel_rfl) rfl) HS.out KB.trans kb_putObj (fun _ => rfl)
  (fun pre W => Blk W w.heap.size 29 (fcells (pre.foldl fstep x)) ∧ Blk W (w.heap.size + 1) 29 #[.int .u64 0, .int .u64 0, .int .u64 0, .int .u64 0] ∧ Below w.heap.size w W) ?hI H0.out ?a1 ?assign ?body ?done
 case hI =>
  rintro pre A B row ⟨h1, h2, h3⟩ hg hr
  have hne : ∀ i, i < w3.heap.size → row ≠ some i := fun i hi e => by have := hr i e; omega
  exact ⟨(hg.block _ h1.lt (fun e => hne _ (by have := HLT.out; omega) e.symm)).trans h1, (hg.block _ h2.lt (fun e => hne _ HLT.out e.symm)).trans h2,
   ⟨hg.os.trans h3.os, hg.tape.trans h3.tape, hg.output.trans h3.output, Nat.le_trans h3.size hg.size, fun i hi => (hg.block i (Nat.lt_of_lt_of_le hi h3.size) (fun e => hne i (by have := HLT.out; omega) e.symm)).trans (h3.block i hi)⟩⟩
 case assign =>
  intro l x W K hK
  simp only [wordE, List.zip_toArray, List.zip_cons_cons, List.zip_nil_left, List.zip_nil_right, List.foldl_toArray, List.foldl_cons, List.foldl_nil, List.size_toArray, List.length_cons, List.length_nil, List.setIfInBounds_toArray, List.set_cons_succ, List.set_cons_zero]
  gi_wp2
  exact hK
 case body =>
  rintro l pre v W ⟨h1, h2, h3⟩ hpre
  have hvm : v < 4294967296 := words_lt v (hpre.subset (List.mem_append_right _ List.mem_cons_self))
  obtain ⟨y, hy⟩ : ∃ y, pre.foldl fstep x = y := ⟨_, rfl⟩
  have hst : (pre ++ [v]).foldl fstep x = fstep y v := by rw [List.foldl_append, hy]; rfl
  rw [hy] at h1
  have HW := Lib.hid (And.intro h1 (And.intro h2 h3))
  have HST := Lib.hid hst
  clear h1 h2 h3 hpre hy hst
  gi_wp2_with fail
  gi_loopw [5, 10] (fun wv t wr => ∃ k : Nat, k ≤ 4 ∧ t = .int .i64 k ∧ wv = .int .u64 (fpart y v k).2 ∧ Blk wr w.heap.size 29 (fcells (fpart y v k).1) ∧ W.grownBy wr (some w.heap.size)) (fun _ t _ => 4 - (RowKit.intOf t).toNat)
  case atStart => exact ⟨0, Nat.zero_le _, rfl, rfl, HW.out.1, rfl, rfl, rfl, Nat.le_refl _, fun _ _ _ => rfl⟩
  case round =>
   obtain ⟨k, hk, rfl, rfl, hbk, hgr⟩ := hrel
   have HB := Lib.hid (And.intro hbk hgr)
   rcases (show k = 0 ∨ k = 1 ∨ k = 2 ∨ k = 3 ∨ k = 4 by omega) with rfl | rfl | rfl | rfl | rfl
   · have c0 : wr.cell? ⟨w.heap.size, 0, none⟩ = some (.int .u64 (y.1 : Nat)) := hbk.at_ rfl
     have f0 := hbk.fr 0
     have hs := wrap_sum (y.1) (v)
     obtain ⟨z, hz⟩ : ∃ z, ((y.1) + (v)) % M64 = z := ⟨_, rfl⟩
     rw [hz] at hs
     have HZ := Lib.hid hz
     have hv2 : (fpart y v 0).2 = v := rfl
     rw [hv2]
     obtain ⟨v2, hv3⟩ : ∃ v2, v = v2 := ⟨_, rfl⟩
     rw [hv3] at hs
     rw [hv3]
     obtain ⟨y2, hy3⟩ : ∃ y2, y.1 = y2 := ⟨_, rfl⟩
     rw [hy3] at hs c0
     have HY := Lib.hid (And.intro hv3 hy3)
     clear hv2 hz hbk hgr hv3 hy3
     gi_wp2_with fail
     obtain ⟨hv3, hy3⟩ := HY.out
     have hz := HZ.out
     subst hv3 hy3 hz
     exact ⟨⟨0 + 1, by omega, rfl, rfl, HB.out.1.put 0 _, only_set HB.out.2 (.inl rfl) _⟩, by simp [RowKit.intOf]⟩
   · have c0 : wr.cell? ⟨w.heap.size, 1, none⟩ = some (.int .u64 (y.2.1 : Nat)) := hbk.at_ rfl
     have f0 := hbk.fr 1
     have hs := wrap_sum (y.2.1) (((y.1 + v) % M64))
     obtain ⟨z, hz⟩ : ∃ z, ((y.2.1) + (((y.1 + v) % M64))) % M64 = z := ⟨_, rfl⟩
     rw [hz] at hs
     have HZ := Lib.hid hz
     have hv2 : (fpart y v 1).2 = ((y.1 + v) % M64) := rfl
     rw [hv2]
     obtain ⟨v2, hv3⟩ : ∃ v2, ((y.1 + v) % M64) = v2 := ⟨_, rfl⟩
     rw [hv3] at hs
     rw [hv3]
     obtain ⟨y2, hy3⟩ : ∃ y2, y.2.1 = y2 := ⟨_, rfl⟩
     rw [hy3] at hs c0
     have HY := Lib.hid (And.intro hv3 hy3)
     clear hv2 hz hbk hgr hv3 hy3
     gi_wp2_with fail
     obtain ⟨hv3, hy3⟩ := HY.out
     have hz := HZ.out
     subst hv3 hy3 hz
     exact ⟨⟨1 + 1, by omega, rfl, rfl, HB.out.1.put 1 _, only_set HB.out.2 (.inl rfl) _⟩, by simp [RowKit.intOf]⟩
   · have c0 : wr.cell? ⟨w.heap.size, 2, none⟩ = some (.int .u64 (y.2.2.1 : Nat)) := hbk.at_ rfl
     have f0 := hbk.fr 2
     have hs := wrap_sum (y.2.2.1) (((y.2.1 + (y.1 + v) % M64) % M64))
     obtain ⟨z, hz⟩ : ∃ z, ((y.2.2.1) + (((y.2.1 + (y.1 + v) % M64) % M64))) % M64 = z := ⟨_, rfl⟩
     rw [hz] at hs
     have HZ := Lib.hid hz
     have hv2 : (fpart y v 2).2 = ((y.2.1 + (y.1 + v) % M64) % M64) := rfl
     rw [hv2]
     obtain ⟨v2, hv3⟩ : ∃ v2, ((y.2.1 + (y.1 + v) % M64) % M64) = v2 := ⟨_, rfl⟩
     rw [hv3] at hs
     rw [hv3]
     obtain ⟨y2, hy3⟩ : ∃ y2, y.2.2.1 = y2 := ⟨_, rfl⟩
     rw [hy3] at hs c0
     have HY := Lib.hid (And.intro hv3 hy3)
     clear hv2 hz hbk hgr hv3 hy3
     gi_wp2_with fail
     obtain ⟨hv3, hy3⟩ := HY.out
     have hz := HZ.out
     subst hv3 hy3 hz
     exact ⟨⟨2 + 1, by omega, rfl, rfl, HB.out.1.put 2 _, only_set HB.out.2 (.inl rfl) _⟩, by simp [RowKit.intOf]⟩
   · have c0 : wr.cell? ⟨w.heap.size, 3, none⟩ = some (.int .u64 (y.2.2.2 : Nat)) := hbk.at_ rfl
     have f0 := hbk.fr 3
     have hs := wrap_sum (y.2.2.2) (((y.2.2.1 + (y.2.1 + (y.1 + v) % M64) % M64) % M64))
     obtain ⟨z, hz⟩ : ∃ z, ((y.2.2.2) + (((y.2.2.1 + (y.2.1 + (y.1 + v) % M64) % M64) % M64))) % M64 = z := ⟨_, rfl⟩
     rw [hz] at hs
     have HZ := Lib.hid hz
     have hv2 : (fpart y v 3).2 = ((y.2.2.1 + (y.2.1 + (y.1 + v) % M64) % M64) % M64) := rfl
     rw [hv2]
     obtain ⟨v2, hv3⟩ : ∃ v2, ((y.2.2.1 + (y.2.1 + (y.1 + v) % M64) % M64) % M64) = v2 := ⟨_, rfl⟩
     rw [hv3] at hs
     rw [hv3]
     obtain ⟨y2, hy3⟩ : ∃ y2, y.2.2.2 = y2 := ⟨_, rfl⟩
     rw [hy3] at hs c0
     have HY := Lib.hid (And.intro hv3 hy3)
     clear hv2 hz hbk hgr hv3 hy3
     gi_wp2_with fail
     obtain ⟨hv3, hy3⟩ := HY.out
     have hz := HZ.out
     subst hv3 hy3 hz
     exact ⟨⟨3 + 1, by omega, rfl, rfl, HB.out.1.put 3 _, only_set HB.out.2 (.inl rfl) _⟩, by simp [RowKit.intOf]⟩
   · gi_wp2_with fail
     have hne : w.heap.size + 1 ≠ w.heap.size := by omega
     refine ⟨KeepsFrom.of_grownBy HB.out.2 (fun j e => by cases e; have := HLT.out; omega), ⟨HB.out.2.size, fun b t cs hn hb => (HB.out.2.block b hb.lt (fun e => hn (by injection e))).trans hb⟩, ?_, HW.out.2.1.grown HB.out.2 hne, below_only HW.out.2.2 HB.out.2 (Nat.le_refl _)⟩
     rw [HST.out]
     exact HB.out.1
 case done =>
  rintro D W hD ⟨h1, h2, h3⟩ hK
  obtain ⟨S, hS⟩ : ∃ S, (wordsL s).foldl fstep x = S := ⟨_, rfl⟩
  rw [hS] at h1
  have HSS := Lib.hid hS
  clear hS
  have c0 : W.cell? ⟨w.heap.size, 0, none⟩ = some (.int .u64 S.1) := h1.at_ rfl
  have c1 : W.cell? ⟨w.heap.size, 1, none⟩ = some (.int .u64 S.2.1) := h1.at_ rfl
  have c2 : W.cell? ⟨w.heap.size, 2, none⟩ = some (.int .u64 S.2.2.1) := h1.at_ rfl
  have c3 : W.cell? ⟨w.heap.size, 3, none⟩ = some (.int .u64 S.2.2.2) := h1.at_ rfl
  have f0 := h2.fr 0
  have f1 := h2.fr 1
  have f2 := h2.fr 2
  have f3 := h2.fr 3
  have z0 := h2.at_ (i := 0) (v := .int .u64 0) rfl
  have z1 := h2.at_ (i := 1) (v := .int .u64 0) rfl
  have z2 := h2.at_ (i := 2) (v := .int .u64 0) rfl
  have z3 := h2.at_ (i := 3) (v := .int .u64 0) rfl
  have hP := ((((h2.put 0 (.int .u64 S.1)).put 1 (.int .u64 S.2.1)).put 2 (.int .u64 S.2.2.1)).put 3 (.int .u64 S.2.2.2))
  obtain ⟨W4, hW4⟩ : ∃ z, (((W.setCell ⟨w.heap.size + 1, 0, none⟩ (.int .u64 S.1)).setCell ⟨w.heap.size + 1, 1, none⟩ (.int .u64 S.2.1)).setCell ⟨w.heap.size + 1, 2, none⟩ (.int .u64 S.2.2.1)).setCell ⟨w.heap.size + 1, 3, none⟩ (.int .u64 S.2.2.2) = z := ⟨_, rfl⟩
  have hK4 : W4.heap[D]? = some (.deferred (some [])) := by rw [← hW4]; exact (KeepsOthers.setCell _ _ _).same D _ ((KeepsOthers.setCell _ _ _).same D _ ((KeepsOthers.setCell _ _ _).same D _ ((KeepsOthers.setCell _ _ _).same D _ hK rfl) rfl) rfl) rfl
  rw [hW4] at hP
  have hB4 : Below w.heap.size w W4 := by rw [← hW4]; exact below_set (below_set (below_set (below_set h3 _ _ _ (Nat.le_succ _)) _ _ _ (Nat.le_succ _)) _ _ _ (Nat.le_succ _)) _ _ _ (Nat.le_succ _)
  have hP5 : Blk (W4.putObj D (.deferred none)) (w.heap.size + 1) 29 (fcells S) := (World.putObj_heap_other (by have := HLT.out; omega)).trans hP
  have HP5 := Lib.hid hP5
  have HK4 := Lib.hid hK4
  have HB5 : Hid (Below w.heap.size w (W4.putObj D (.deferred none))) := Lib.hid (hB4.trans (belowK_b (w := w) (Nat.le_refl _) _ D _ _ (by have := HLT.out; omega) hK4 rfl rfl))
  have HW4 := Lib.hid hW4
  clear h1 h2 h3 hK hP hK4 hB4 hP5 hW4
  go_wp2_with fail
  rw [HW4.out]
  refine ⟨by simp, .inl ⟨_, _, rfl, run_takeDeferred HK4.out, ?_⟩⟩
  refine ⟨.agg (fcells S), ?_, by rw [HSS.out], HB5.out⟩
  have e0 := HP5.out.at_ (i := 0) (v := .int .u64 S.1) rfl
  have e1 := HP5.out.at_ (i := 1) (v := .int .u64 S.2.1) rfl
  have e2 := HP5.out.at_ (i := 2) (v := .int .u64 S.2.2.1) rfl
  have e3 := HP5.out.at_ (i := 3) (v := .int .u64 S.2.2.2) rfl
  simp [results, Tryz.f37, go_sem, e0, e1, e2, e3]
theorem fsum_any (s : List UInt8) (hl : s.length ≤ 140737488351000) (w : World) : Calls Tryz.prog 14 #[str s] w fun e w' => e = .returned (.agg (fcells (fsum s))) ∧ Below w.heap.size w w' := by
 obtain ⟨w2, hw2⟩ : ∃ z, w.alloc (.cells #[.int .u64 0, .int .u64 0, .int .u64 0, .int .u64 0] 29) = z := ⟨_, rfl⟩
 have B2 : Blk w2 w.heap.size 29 #[.int .u64 0, .int .u64 0, .int .u64 0, .int .u64 0] := by rw [← hw2]; exact Blk.new _ _ _
 have D2 : Below w.heap.size w w2 := by rw [← hw2]; exact keep_alloc (Below.refl _ _) _
 have HB2 := Lib.hid B2
 have HD2 := Lib.hid D2
 have HW2 := Lib.hid hw2
 have HM := Lib.hid (fmore_any (0, 0, 0, 0) s hl w2)
 clear B2 D2 hw2
 go_enter Tryz.func14, Tryz.ntmps14
 go_wp2_with fail
 rw [HW2.out]
 refine HM.out.mono ?_
 rintro e w3 ⟨rfl, hb3⟩
 have h2 := HB2.out.below hb3 HB2.out.lt
 obtain ⟨S, hS⟩ : ∃ S, (wordsL s).foldl fstep (0, 0, 0, 0) = S := ⟨_, rfl⟩
 have hF : fsum s = S := hS
 have HF := Lib.hid hF
 have f0 := h2.fr 0
 have f1 := h2.fr 1
 have f2 := h2.fr 2
 have f3 := h2.fr 3
 have z0 := h2.at_ (i := 0) (v := .int .u64 0) rfl
 have z1 := h2.at_ (i := 1) (v := .int .u64 0) rfl
 have z2 := h2.at_ (i := 2) (v := .int .u64 0) rfl
 have z3 := h2.at_ (i := 3) (v := .int .u64 0) rfl
 have HP := Lib.hid ((((h2.put 0 (.int .u64 S.1)).put 1 (.int .u64 S.2.1)).put 2 (.int .u64 S.2.2.1)).put 3 (.int .u64 S.2.2.2))
 have HB3 := Lib.hid (keep_below hb3 HD2.out)
 rw [hS]
 clear hb3 h2 hF hS
 go_wp2_with fail
 have e0 := HP.out.at_ (i := 0) (v := .int .u64 S.1) rfl
 have e1 := HP.out.at_ (i := 1) (v := .int .u64 S.2.1) rfl
 have e2 := HP.out.at_ (i := 2) (v := .int .u64 S.2.2.1) rfl
 have e3 := HP.out.at_ (i := 3) (v := .int .u64 S.2.2.2) rfl
 refine bodyPost_ret (v := .agg (fcells S)) (by simp [results, Tryz.f14, go_sem, e0, e1, e2, e3]) rfl ⟨by rw [HF.out], below_set (below_set (below_set (below_set HB3.out _ _ _ (Nat.le_refl _)) _ _ _ (Nat.le_refl _)) _ _ _ (Nat.le_refl _)) _ _ _ (Nat.le_refl _)⟩
end Go.Proofs.YtbhkbcpljakmjaaGreat
