/-
  A region that draws its order, of plain reads and a chain of operations that turn the world, each waiting for the one before, then a forced tail: one walk of the lexical order serves all. No program stands here.
-/
import Derived.Test.YtlpbbjjibnbooaaGreatDoorJ01
import Derived.Deep.Quiet
import Derived.StillTail
import Derived.BigQuiet
namespace Go.Proofs.YtlpbbjjibnbooaaGreatDoor
set_option linter.unusedVariables false
set_option linter.unusedSimpArgs false
open Go.RowKit

/-- Operations that enter no function. -/
def plainB (o : Oper) : Bool :=
  match o.op with
  | .move _ | .assign _ | .pick _ _ _ | .load _ _ | .binOp _ _ _ _ _ | .unOp _ _ _ | .convert _ _ _ | .fieldAddr _ _ _ | .field _ _ _ | .indexAddr _ _ _ | .index _ _ _ | .lookup _ _ _ _ | .slice _ _ _ _ _ | .extract _ _ | .makeInterface _ _ | .nilCheck _ | .build _ _ => true
  | .call c => match c.callee with | .builtin .len | .builtin .min | .builtin .max => true | _ => false
  | _ => false
def entersB : Next → Bool
  | .enter _ _ => true
  | _ => false
theorem val_plain {α : Type} (s : Sem α) (g : α → Value) {P : Program} {w w' : World} {n : Next} (h : (do pure (Next.value (g (← s))) : Sem Next).run P w = .ok n w') : entersB n = false := by
  simp only [Sem.run_bind, Sem.run_pure] at h
  generalize s.run P w = r at h
  cases r with
  | ok x w1 => simp only [Result.andThen_ok] at h; cases h; rfl
  | halt x w1 => cases h
/-- It enters none, whatever the values. -/
def NoEnter (P : Program) (o : Oper) : Prop := ∀ (ρ : Operand → Value) (w w' : World) (n : Next), (execOp ρ o).run P w = .ok n w' → entersB n = false
theorem plain_ok {o : Oper} (hp : plainB o = true) {P : Program} : NoEnter P o := by
  intro ρ w w' n h
  obtain ⟨dst, op, type, pos, after, guard⟩ := o
  cases op with
  | call c =>
    obtain ⟨callee, args, ats⟩ := c
    cases callee with
    | builtin b =>
      cases b <;> simp [plainB] at hp
      all_goals
        simp only [execOp, resolve, invoke, Sem.run_bind, Sem.run_pure, Result.andThen_ok, builtin] at h
        exact val_plain _ id (by simpa [Sem.run_bind] using h)
    | _ => simp [plainB] at hp
  | nilCheck x =>
    simp only [execOp] at h
    generalize ρ x = y at h
    split at h
    all_goals first
      | (cases h; done)
      | (simp [runtimePanic, go_sem] at h; done)
      | (split at h
         all_goals first
           | (simp [runtimePanic, go_sem] at h; done)
           | (cases h; rfl)
           | (simp only [Sem.run_bind] at h
              generalize Sem.run P program w = r1 at h
              cases r1 with
              | ok p w1 =>
                simp only [Result.andThen_ok, Sem.run_bind] at h
                generalize Sem.run P (nilAhead _ _ _ _) w1 = r2 at h
                cases r2 with
                | ok b w2 =>
                  simp only [Result.andThen_ok] at h
                  split at h
                  · simp [unsupported, go_sem] at h
                  · cases h; rfl
                | halt x w2 => cases h
              | halt x w1 => cases h))
      | (cases h; rfl)
  | _ => first
    | (simp only [execOp] at h; first | (exact val_plain _ id h) | (exact val_plain _ _ h) | (cases h; rfl))
    | (simp [plainB] at hp; done)

/-- What an operation leaves: only normally; a class of worlds. -/
def nrm (K : Act → World → Prop) : Exit → Act → World → Prop := fun e a w => e = .normal ∧ K a w
theorem nrm_out {K : Act → World → Prop} : ¬ LetsOut (nrm K) := by
  rintro ⟨a, w, h, _⟩
  cases h

section
variable {P : Program} {ops : Array Oper} {md : Region.Mode} {S : World → Prop} {eff : Nat → Bool}
/-- Only returns. -/
def Oper.wpn (P : Program) (o : Oper) (a : Act) (w : World) (K : Act → World → Prop) : Prop := o.wp P a w K (nrm fun _ _ => False)
theorem nrm_false {e : Exit} {a : Act} {w : World} : ¬ nrm (fun _ _ => False) e a w := fun h => h.2
theorem wpn_mono {o : Oper} {a : Act} {w : World} {K K' : Act → World → Prop} (h : ∀ a w, K a w → K' a w) (hh : Oper.wpn P o a w K) : Oper.wpn P o a w K' := Oper.wp_mono h hh
theorem wpn_some {o : Oper} {a : Act} {w : World} {K : Act → World → Prop} (hh : Oper.wpn P o a w K) : ∃ a' w', K a' w' := by
  unfold Oper.wpn Oper.wp at hh
  generalize (execOp a.eval o).run P w = r at hh
  cases r with
  | ok n w' =>
    cases n <;> simp only [Oper.upon] at hh
    case enter f args =>
      obtain ⟨e, w2, fr, hR, _⟩ := hh []
      cases e with
      | returned v => exact ⟨_, _, hR⟩
      | panicked c => exact absurd hR nrm_false
      | outgrown => exact absurd hR nrm_out
    case row row args =>
      obtain ⟨v, w2, hR, _⟩ := hh (Frame.enter P 0 #[] .normal) []
      exact ⟨_, _, hR⟩
    all_goals exact ⟨_, _, hh⟩
  | halt x w' =>
    cases x <;> simp only [Oper.upon] at hh
    exact absurd hh nrm_false
/-- What an operation makes of a frame. -/
def Shape (o : Oper) (a a' : Act) : Prop := ∃ ds u, a' = ({ a with defers := ds } : Act).put o.dst u
theorem wpn_put {o : Oper} {a : Act} {d : Option Tmp} {v : Value} {w : World} {K : Act → World → Prop} (he : execOp (a.put d v).eval o = execOp a.eval o) (hd : ∀ e, d = some e → o.dst ≠ some e)
    (h : Oper.wpn P o (a.put d v) w K) : Oper.wpn P o a w (fun a' w' => Shape o a a' ∧ K (a'.put d v) w') := by
  have c1 : ∀ x, ((a.put d v).put o.dst x) = (a.put o.dst x).put d v := fun x => Act.put_comm a v x hd
  unfold Oper.wpn Oper.wp at *
  rw [he] at h
  generalize (execOp a.eval o).run P w = r at *
  cases r with
  | ok n w' =>
    cases n <;> simp only [Oper.upon] at h ⊢
    case value x => exact ⟨⟨a.defers, x, rfl⟩, by rw [← c1]; exact h⟩
    case skip => exact ⟨⟨a.defers, undef, rfl⟩, by rw [← c1]; exact h⟩
    case defer x =>
      refine ⟨⟨x :: a.defers, undef, rfl⟩, ?_⟩
      rw [← Act.put_comm _ v undef hd, ← Act.put_defers]
      exact h
    case enter f args =>
      refine Calls.mono h (fun e w'' he => ?_)
      cases e with
      | returned x => exact ⟨⟨a.defers, x, rfl⟩, by rw [← c1]; exact he⟩
      | panicked c => exact absurd he nrm_false
      | outgrown => exact absurd he nrm_out
    case row row args => exact Rows.mono h (fun x w'' he => ⟨⟨a.defers, x, rfl⟩, by rw [← c1]; exact he⟩)
  | halt x w' => cases x <;> simp only [Oper.upon] at h ⊢; exact absurd h nrm_false
/-- The other way. -/
theorem wpn_unput {o : Oper} {a : Act} {d : Option Tmp} {v : Value} {w : World} {K : Act → World → Prop} (he : execOp (a.put d v).eval o = execOp a.eval o) (hd : ∀ e, d = some e → o.dst ≠ some e)
    (h : Oper.wpn P o a w K) : Oper.wpn P o (a.put d v) w (fun a'' w' => ∃ a', Shape o a a' ∧ a'' = a'.put d v ∧ K a' w') := by
  have c1 : ∀ x, ((a.put d v).put o.dst x) = (a.put o.dst x).put d v := fun x => Act.put_comm a v x hd
  unfold Oper.wpn Oper.wp at *
  rw [he]
  generalize (execOp a.eval o).run P w = r at *
  cases r with
  | ok n w' =>
    cases n <;> simp only [Oper.upon] at h ⊢
    case value x => exact ⟨_, ⟨a.defers, x, rfl⟩, c1 x, h⟩
    case skip => exact ⟨_, ⟨a.defers, undef, rfl⟩, c1 _, h⟩
    case defer x =>
      refine ⟨_, ⟨x :: a.defers, undef, rfl⟩, ?_, h⟩
      have e1 : ({ a.put d v with defers := x :: (a.put d v).defers } : Act) = ({ a with defers := x :: a.defers } : Act).put d v := Act.put_defers a d v x
      rw [e1]
      exact Act.put_comm _ v undef hd
    case enter f args =>
      refine Calls.mono h (fun e w'' he => ?_)
      cases e with
      | returned x => exact ⟨_, ⟨a.defers, x, rfl⟩, c1 x, he⟩
      | panicked c => exact absurd he nrm_false
      | outgrown => exact absurd he nrm_out
    case row row args => exact Rows.mono h (fun x w'' he => ⟨_, ⟨a.defers, x, rfl⟩, c1 x, he⟩)
  | halt x w' => cases x <;> simp only [Oper.upon] at h ⊢; exact absurd h nrm_false

/-- Operation number i comes up. -/
def efOp (P : Program) (ops : Array Oper) (S : World → Prop) (eff : Nat → Bool) (i : Nat) (K : Act → World → Prop) (a : Act) (w : World) : Prop :=
  match ops[i]? with
  | none => K a w
  | some o => if eff i then Oper.wpn P o a w (fun a' w' => S w' ∧ K a' w') else if Region.wanted o (yielded ops a.tmps) then o.quiet P a S (fun a' => K a' w) else K (a.put o.dst undef) w
theorem efOp_mono {i : Nat} {a : Act} {w : World} {K K' : Act → World → Prop} (h : ∀ a w, S w → K a w → K' a w) (hw : S w) (hh : efOp P ops S eff i K a w) : efOp P ops S eff i K' a w := by
  unfold efOp at *
  split
  · exact h _ _ hw (by simpa [*] using hh)
  · rename_i o ho
    simp only [ho] at hh
    split
    · rename_i he; simp only [he, if_true] at hh; exact wpn_mono (fun _ _ h' => ⟨h'.1, h _ _ h'.1 h'.2⟩) hh
    · rename_i he
      simp only [he] at hh
      split
      · rename_i hwn; simp only [hwn, if_true] at hh; exact Oper.quiet_mono (fun a h' => h a w hw h') hh
      · rename_i hwn; simp only [hwn] at hh; exact h _ _ hw hh
/-- Whatever order is picked, of the first n. -/
def wpAnyE (P : Program) (md : Region.Mode) (ops : Array Oper) (S : World → Prop) (eff : Nat → Bool) (n : Nat) (L : Array Bool → Act → World → Prop) : Nat → Array Bool → Act → World → Prop
  | 0, listed, a, w => L listed a w
  | f + 1, listed, a, w => Region.ready md ops listed ≠ [] ∧ ∀ i ∈ Region.ready md ops listed, i < n ∧ efOp P ops S eff i (wpAnyE P md ops S eff n L f (listed.setIfInBounds i true)) a w

theorem wpOp_of_efOp {i : Nat} {a : Act} {K : Act → World → Prop} {K' : Act → World → Prop} {Q' : Exit → Act → World → Prop} {w : World} (hw : S w) (hg : ∀ o, ops[i]? = some o → eff i = true → o.guard = none)
    (hne : ∀ o, ops[i]? = some o → eff i = false → NoEnter P o) (h : ∀ a w, S w → K a w → K' a w) (hh : efOp P ops S eff i K a w) : wpOp P ops Q' i K' a w := by
  unfold efOp at hh
  unfold wpOp
  split
  · rename_i ho; simp only [ho] at hh; exact h _ _ hw hh
  · rename_i o ho
    simp only [ho] at hh
    cases he : eff i with
    | true =>
      simp only [he, if_true] at hh
      have hwn : Region.wanted o (yielded ops a.tmps) = true := by simp only [Region.wanted, hg o ho he]
      simp only [hwn, if_true]
      refine .inl ?_
      unfold Oper.wpn Oper.wp at *
      generalize (execOp a.eval o).run P w = r at *
      cases r with
      | ok n w' =>
        cases n <;> simp only [Oper.upon] at hh ⊢
        case enter f args =>
          refine Calls.mono hh (fun e w'' he => ?_)
          cases e with
          | returned x => exact h _ _ he.1 he.2
          | panicked c => exact absurd he nrm_false
          | outgrown => exact absurd he nrm_out
        case row row args => exact Rows.mono hh (fun x w'' he => h _ _ he.1 he.2)
        all_goals exact h _ _ hh.1 hh.2
      | halt x w' => cases x <;> simp only [Oper.upon] at hh ⊢; exact absurd hh nrm_false
    | false =>
      simp only [he] at hh
      split
      · rename_i hwn
        simp only [hwn, if_true] at hh
        refine .inl ?_
        obtain ⟨v, h1, h2⟩ := hh
        have h3 := h1 w hw
        unfold Oper.quietAt at h3
        unfold Oper.wp
        have hN := hne o ho he a.eval w
        generalize (execOp a.eval o).run P w = r at *
        cases r with
        | ok n w' =>
          cases n <;> simp only [Oper.quietUpon] at h3 <;> simp only [Oper.upon]
          case value u => obtain ⟨rfl, rfl⟩ := h3; exact h _ _ hw h2
          case skip => obtain ⟨rfl, rfl⟩ := h3; exact h _ _ hw h2
          case enter f args => exact absurd (hN _ _ rfl) (by simp [entersB])
        | halt x w' => simp only [Oper.quietUpon] at h3
      · rename_i hwn; simp only [hwn] at hh; exact h _ _ hw hh

theorem wpAny_of_eff {n g : Nat} {L : Array Bool → Act → World → Prop} {Q' : Exit → Act → World → Prop} (hg : ∀ i o, ops[i]? = some o → eff i = true → o.guard = none) (hne : ∀ i o, ops[i]? = some o → i < n → eff i = false → NoEnter P o)
    (hL : ∀ listed a w, S w → L listed a w → wpAny P md ops Q' g listed a w) :
    ∀ (f : Nat) (listed : Array Bool) (a : Act) (w : World), S w → wpAnyE P md ops S eff n L f listed a w → wpAny P md ops Q' (f + g) listed a w
  | 0, listed, a, w, hw, h => by rw [Nat.zero_add]; exact hL _ _ _ hw h
  | f + 1, listed, a, w, hw, h => by
    rw [show f + 1 + g = (f + g) + 1 by omega]
    exact ⟨fun h0 => absurd h0 h.1, fun i hi => wpOp_of_efOp hw (hg i) (fun o ho he => hne i o ho (h.2 i hi).1 he) (fun a' w' hw' h' => wpAny_of_eff hg hne hL f _ a' w' hw' h') (h.2 i hi).2⟩

/-- What is listed when operation i, an effect or not, is the first that is not. -/
structure EffInv (ops : Array Oper) (eff : Nat → Bool) (i : Nat) (listed : Array Bool) : Prop where
  lo : ∀ j, j < i → eff j = true → listed.getD j true = true
  hi : ∀ j, i ≤ j → j < ops.size → eff j = true → listed.getD j true = false
theorem getD_set_self {listed : Array Bool} {i : Nat} : (listed.setIfInBounds i true).getD i true = true := by
  rcases Nat.lt_or_ge i listed.size with h | h
  · simp [h]
  · simp [Nat.not_lt.2 h]
theorem EffInv.set {i j : Nat} {listed : Array Bool} (h : EffInv ops eff i listed) (hj : eff j = false) : EffInv ops eff i (listed.setIfInBounds j true) :=
  ⟨fun k hk he => by rw [getD_set_ne true (by rintro rfl; rw [hj] at he; cases he)]; exact h.lo k hk he, fun k hk hs he => by rw [getD_set_ne true (by rintro rfl; rw [hj] at he; cases he)]; exact h.hi k hk hs he⟩
/-- Each effect waits for the one before. -/
def Chain (md : Region.Mode) (ops : Array Oper) (eff : Nat → Bool) : Prop :=
  ∀ j o, ops[j]? = some o → eff j = true → ∀ i, i < j → eff i = true → ∃ e ∈ o.after, Region.binds md e = true ∧ eff e.on = true ∧ i ≤ e.on ∧ e.on < j
theorem eff_waits (hc : Chain md ops eff) {i j : Nat} {listed : Array Bool} (inv : EffInv ops eff i listed) (hi : eff i = true) (hj : j ∈ Region.ready md ops listed) (hne : j ≠ i) : eff j = false := by
  cases he : eff j with
  | false => rfl
  | true =>
    obtain ⟨hun, oj, hoj, hall⟩ := mem_ready.1 hj
    rcases Nat.lt_or_ge j i with h | h
    · have := inv.lo j h he
      rw [this] at hun; cases hun
    · obtain ⟨e, h1, h2, h3, h4, h5⟩ := hc j oj hoj he i (by omega) hi
      have hjs : j < ops.size := (Array.getElem?_eq_some_iff.1 hoj).1
      have h6 := inv.hi e.on h4 (by omega) h3
      have h7 := hall e h1 h2
      rw [getD_both h6] at h7; cases h7

/-- A read may be taken first. -/
theorem wpAnyE_pure {n i : Nat} {oi : Oper} {v : Value} {L : Array Bool → Act → World → Prop} (hi : ops[i]? = some oi) (hie : eff i = false) (hsel : ∀ (j : Nat) (o : Oper) cs b, ops[j]? = some o → o.op ≠ .select cs b)
    (hs : Region.sinkB md ops n = true) (hc : Region.chainB md ops n = true) (hn : n < ops.size) (hin : i < n)
    (hdone : ∀ listed a w, L listed a w → ∀ j ∈ Region.ready md ops listed, n ≤ j) :
    ∀ (f : Nat) (listed : Array Bool) (a : Act) (w : World), S w → HeadInv md ops n listed →
      (∀ j oj, ops[j]? = some oj → j ≠ i → listed.getD j true = false → (∀ e ∈ oj.after, Region.binds md e = true → e.on ≠ i) → oi.apart ops oj = true) →
      i ∈ Region.ready md ops listed → YieldsIn P ops S oi v a →
      wpAnyE P md ops S eff n L f (listed.setIfInBounds i true) (a.put oi.dst v) w → wpAnyE P md ops S eff n L (f + 1) listed a w := by
  have step : ∀ {K : Act → World → Prop} {a : Act} {w : World}, YieldsIn P ops S oi v a → K (a.put oi.dst v) w → efOp P ops S eff i K a w := by
    intro K a w hy h
    unfold efOp
    simp only [hi, hie]
    rcases hy with ⟨hw, hv⟩ | ⟨hw, rfl⟩
    · simp only [hw, if_true]; exact ⟨v, hv, h⟩
    · simp only [hw]; exact h
  intro f
  induction f with
  | zero =>
    intro listed a w _ inv _ hr hy H
    have hun := (mem_ready.1 hr).1
    refine ⟨fun h => (by rw [h] at hr; cases hr), fun j hj => ?_⟩
    have hjn : j < n := by
      rcases Nat.lt_or_ge j n with h | h
      · exact h
      · exact absurd hj (tail_waits hs hc hn inv _ i rfl hin hun j h)
    refine ⟨hjn, ?_⟩
    by_cases hji : j = i
    · subst hji; exact step hy H
    · have := hdone _ _ _ H j (ready_mono hj hji)
      omega
  | succ f ih =>
    intro listed a w hw inv hfree hr hy H
    have hun := (mem_ready.1 hr).1
    refine ⟨fun h => (by rw [h] at hr; cases hr), fun j hj => ?_⟩
    have hjn : j < n := by
      rcases Nat.lt_or_ge j n with h | h
      · exact h
      · exact absurd hj (tail_waits hs hc hn inv _ i rfl hin hun j h)
    refine ⟨hjn, ?_⟩
    by_cases hji : j = i
    · subst hji; exact step hy H
    · have h1 := (H.2 j (ready_mono hj hji)).2
      obtain ⟨hjun, oj, hoj, hall⟩ := mem_ready.1 hj
      have hnot : ∀ e ∈ oj.after, Region.binds md e = true → e.on ≠ i := fun e he hb heq => by
        have h1 := hall e he hb
        rw [heq, getD_both hun] at h1
        cases h1
      have hap := hfree j oj hoj hji hjun hnot
      obtain ⟨p1, p2, p3⟩ := Oper.apart_spec hap
      have hfree' : ∀ k ok, ops[k]? = some ok → k ≠ i → (listed.setIfInBounds j true).getD k true = false →
          (∀ e ∈ ok.after, Region.binds md e = true → e.on ≠ i) → oi.apart ops ok = true := fun k ok hk hki hun hno => by
        refine hfree k ok hk hki ?_ hno
        by_cases hjk : j = k
        · subst hjk; exact hjun
        · rw [getD_set_ne true hjk] at hun; exact hun
      have hsi := fun cs b => hsel i oi cs b hi
      have hsj := fun cs b => hsel j oj cs b hoj
      have go : ∀ (a' : Act) (w' : World), S w' → YieldsIn P ops S oi v a' → wpAnyE P md ops S eff n L f ((listed.setIfInBounds i true).setIfInBounds j true) (a'.put oi.dst v) w' →
          wpAnyE P md ops S eff n L (f + 1) (listed.setIfInBounds j true) a' w' := fun a' w' hw' hy' h' => by
        refine ih (listed.setIfInBounds j true) a' w' hw' (inv.set hj hjn) hfree' (ready_mono hr (Ne.symm hji)) hy' ?_
        rw [Array.setIfInBounds_comm _ _ hji]
        exact h'
      cases hej : eff j with
      | true =>
        unfold efOp at h1 ⊢
        simp only [hoj, hej, if_true] at h1 ⊢
        refine wpn_mono (fun a' w' hh => ?_) (wpn_put (execOp_put oj hsj a oi.dst v p1) p2 h1)
        obtain ⟨⟨ds, u, rfl⟩, hS, hK⟩ := hh
        refine ⟨hS, go _ _ hS ?_ hK⟩
        have hy2 : YieldsIn P ops S oi v ({ a with defers := ds } : Act) := hy.of_same rfl rfl
        exact hy2.of_same (execOp_put oi hsi _ oj.dst u p3) (wanted_put oi _ oj.dst u p3)
      | false =>
        have h2 : qOp P ops S j (fun a' => wpAnyE P md ops S eff n L f ((listed.setIfInBounds i true).setIfInBounds j true) a' w) (a.put oi.dst v) := by
          unfold efOp at h1
          unfold qOp
          simp only [hoj, hej] at h1 ⊢
          exact h1
        have h3 := qOp_put hoj hap hsi hsj hy h2
        unfold qOp at h3
        unfold efOp
        simp only [hoj, hej, Bool.false_eq_true, if_false] at h3 ⊢
        split
        · rename_i hwn
          simp only [hwn, if_true] at h3
          exact Oper.quiet_mono (fun a' h' => go a' w hw h'.1 h'.2) h3
        · rename_i hwn
          simp only [hwn] at h3
          exact go _ w hw h3.1 h3.2

/-- An operation that turns the world may be taken first. -/
theorem wpAnyE_eff {n i : Nat} {oi : Oper} {L : Array Bool → Act → World → Prop} (hi : ops[i]? = some oi) (hie : eff i = true) (hsel : ∀ (j : Nat) (o : Oper) cs b, ops[j]? = some o → o.op ≠ .select cs b)
    (hs : Region.sinkB md ops n = true) (hc : Region.chainB md ops n = true) (hn : n < ops.size) (hin : i < n) (hch : Chain md ops eff) (hne : ∀ i o, ops[i]? = some o → i < n → eff i = false → NoEnter P o)
    (hdone : ∀ listed a w, L listed a w → ∀ j ∈ Region.ready md ops listed, n ≤ j) :
    ∀ (f : Nat) (listed : Array Bool) (a : Act) (w : World), S w → HeadInv md ops n listed → EffInv ops eff i listed →
      (∀ j oj, ops[j]? = some oj → j ≠ i → listed.getD j true = false → (∀ e ∈ oj.after, Region.binds md e = true → e.on ≠ i) → oi.apart ops oj = true) →
      i ∈ Region.ready md ops listed →
      Oper.wpn P oi a w (fun a' w' => S w' ∧ wpAnyE P md ops S eff n L f (listed.setIfInBounds i true) a' w') → wpAnyE P md ops S eff n L (f + 1) listed a w := by
  have step : ∀ {K : Act → World → Prop} {a : Act} {w : World}, Oper.wpn P oi a w (fun a' w' => S w' ∧ K a' w') → efOp P ops S eff i K a w := by
    intro K a w h
    unfold efOp
    simp only [hi, hie, if_true]
    exact h
  intro f
  induction f with
  | zero =>
    intro listed a w _ inv _ _ hr H
    have hun := (mem_ready.1 hr).1
    refine ⟨fun h => (by rw [h] at hr; cases hr), fun j hj => ?_⟩
    have hjn : j < n := by
      rcases Nat.lt_or_ge j n with h | h
      · exact h
      · exact absurd hj (tail_waits hs hc hn inv _ i rfl hin hun j h)
    refine ⟨hjn, ?_⟩
    by_cases hji : j = i
    · subst hji; exact step H
    · obtain ⟨a', w', _, h⟩ := wpn_some H
      have := hdone _ _ _ h j (ready_mono hj hji)
      omega
  | succ f ih =>
    intro listed a w hw inv einv hfree hr H
    have hun := (mem_ready.1 hr).1
    refine ⟨fun h => (by rw [h] at hr; cases hr), fun j hj => ?_⟩
    have hjn : j < n := by
      rcases Nat.lt_or_ge j n with h | h
      · exact h
      · exact absurd hj (tail_waits hs hc hn inv _ i rfl hin hun j h)
    refine ⟨hjn, ?_⟩
    by_cases hji : j = i
    · subst hji; exact step H
    · have hej := eff_waits hch einv hie hj hji
      obtain ⟨hjun, oj, hoj, hall⟩ := mem_ready.1 hj
      have hnot : ∀ e ∈ oj.after, Region.binds md e = true → e.on ≠ i := fun e he hb heq => by
        have h1 := hall e he hb
        rw [heq, getD_both hun] at h1
        cases h1
      have hap := hfree j oj hoj hji hjun hnot
      obtain ⟨p1, p2, p3⟩ := Oper.apart_spec hap
      have hfree' : ∀ k ok, ops[k]? = some ok → k ≠ i → (listed.setIfInBounds j true).getD k true = false →
          (∀ e ∈ ok.after, Region.binds md e = true → e.on ≠ i) → oi.apart ops ok = true := fun k ok hk hki hun hno => by
        refine hfree k ok hk hki ?_ hno
        by_cases hjk : j = k
        · subst hjk; exact hjun
        · rw [getD_set_ne true hjk] at hun; exact hun
      have hsi := fun cs b => hsel i oi cs b hi
      have hsj := fun cs b => hsel j oj cs b hoj
      have p2' : ∀ e, oj.dst = some e → oi.dst ≠ some e := fun e h1 h2 => p2 e h2 h1
      -- what the read does in a frame of oi's making
      have look : ∀ (a' : Act) (w' : World), S w' → Shape oi a a' → wpAnyE P md ops S eff n L (f + 1) (listed.setIfInBounds i true) a' w' →
          (Region.wanted oj (yielded ops a.tmps) = true ∧ ∃ u, (∀ W, S W → oj.quietAt P a S W u) ∧ wpAnyE P md ops S eff n L f ((listed.setIfInBounds i true).setIfInBounds j true) (a'.put oj.dst u) w') ∨
          (Region.wanted oj (yielded ops a.tmps) = false ∧ wpAnyE P md ops S eff n L f ((listed.setIfInBounds i true).setIfInBounds j true) (a'.put oj.dst undef) w') := by
        intro a' w' hS hsh h
        obtain ⟨ds, v, rfl⟩ := hsh
        have h1 := (h.2 j (ready_mono hj hji)).2
        unfold efOp at h1
        simp only [hoj, hej] at h1
        have e1 : execOp ((({ a with defers := ds } : Act).put oi.dst v)).eval oj = execOp a.eval oj := execOp_put oj hsj ({ a with defers := ds } : Act) oi.dst v p1
        have e2 : Region.wanted oj (yielded ops ((({ a with defers := ds } : Act).put oi.dst v)).tmps) = Region.wanted oj (yielded ops a.tmps) := wanted_put oj ({ a with defers := ds } : Act) oi.dst v p1
        rw [e2] at h1
        cases hwn : Region.wanted oj (yielded ops a.tmps) with
        | true =>
          simp only [hwn, if_true] at h1
          obtain ⟨u, hu, hk⟩ := h1
          refine .inl ⟨rfl, u, fun W hW => ?_, hk⟩
          have := hu W hW
          unfold Oper.quietAt at this ⊢
          rw [← e1]; exact this
        | false => simp only [hwn] at h1; exact .inr ⟨rfl, h1⟩
      have uniq : ∀ {u u' : Value} {W : World}, S W → (∀ W, S W → oj.quietAt P a S W u) → (∀ W, S W → oj.quietAt P a S W u') → u = u' := by
        intro u u' W hW h1 h2
        have h1 := h1 W hW
        have h2 := h2 W hW
        unfold Oper.quietAt at h1 h2
        have hN := hne j oj hoj hjn hej a.eval W
        generalize (execOp a.eval oj).run P W = r at *
        cases r with
        | ok nx w' =>
          cases nx <;> simp only [Oper.quietUpon] at h1 h2
          case value x => exact h1.2.symm.trans h2.2
          case skip => exact h1.2.trans h2.2.symm
          case enter f args => exact absurd (hN _ _ rfl) (by simp [entersB])
        | halt x w' => simp only [Oper.quietUpon] at h1
      have H0 : Oper.wpn P oi a w (fun a' w' => Shape oi a a' ∧ S w' ∧ wpAnyE P md ops S eff n L (f + 1) (listed.setIfInBounds i true) a' w') := by
        have := wpn_put (P := P) (o := oi) (a := a) (d := none) (v := undef) rfl (fun e h => by cases h) H
        exact wpn_mono (fun a' w' h => h) this
      obtain ⟨a1, w1, hsh1, hS1, h1⟩ := wpn_some H0
      have next : ∀ u, (∀ (a' : Act) (w' : World), S w' → Shape oi a a' → wpAnyE P md ops S eff n L (f + 1) (listed.setIfInBounds i true) a' w' → wpAnyE P md ops S eff n L f ((listed.setIfInBounds i true).setIfInBounds j true) (a'.put oj.dst u) w') →
          wpAnyE P md ops S eff n L (f + 1) (listed.setIfInBounds j true) (a.put oj.dst u) w := by
        intro u hu
        refine ih (listed.setIfInBounds j true) (a.put oj.dst u) w hw (inv.set hj hjn) (einv.set hej) hfree' (ready_mono hr (Ne.symm hji)) ?_
        rw [Array.setIfInBounds_comm _ _ hji]
        refine wpn_mono (fun a'' w'' hh => ?_) (wpn_unput (execOp_put oi hsi a oj.dst u p3) p2' H0)
        obtain ⟨a', _, rfl, hsh, hS, h'⟩ := hh
        exact ⟨hS, hu a' w'' hS hsh h'⟩
      unfold efOp
      simp only [hoj, hej, Bool.false_eq_true, if_false]
      rcases look a1 w1 hS1 hsh1 h1 with ⟨hwn, u, hu, _⟩ | ⟨hwn, _⟩
      · simp only [hwn, if_true]
        refine ⟨u, hu, next u fun a' w' hS hsh h' => ?_⟩
        rcases look a' w' hS hsh h' with ⟨_, u', hu', h2⟩ | ⟨hwn', _⟩
        · rw [uniq hS hu hu']; exact h2
        · rw [hwn] at hwn'; cases hwn'
      · simp only [hwn]
        refine next undef fun a' w' hS hsh h' => ?_
        rcases look a' w' hS hsh h' with ⟨hwn', _⟩ | ⟨_, h2⟩
        · rw [hwn] at hwn'; cases hwn'
        · exact h2

/-- The walk of the lexical order. -/
def wpLexE (P : Program) (ops : Array Oper) (S : World → Prop) (eff : Nat → Bool) (Q : Act → World → Prop) : List Oper → Nat → Act → World → Prop
  | [], _, a, w => Q a w
  | o :: rest, k, a, w => if eff k then Oper.wpn P o a w (fun a' w' => S w' ∧ wpLexE P ops S eff Q rest (k + 1) a' w')
    else if Region.wanted o (yielded ops a.tmps) then o.quiet P a S (fun a' => wpLexE P ops S eff Q rest (k + 1) a' w) else wpLexE P ops S eff Q rest (k + 1) (a.put o.dst undef) w

theorem wpLexE_quiet {Q : Act → World → Prop} {rest : List Oper} {w : World} : ∀ (seg : List Oper) (k : Nat) (a : Act), (List.range seg.length).all (fun j => !eff (k + j)) = true →
    wpQuiet P ops S (fun a' => wpLexE P ops S eff Q rest (k + seg.length) a' w) seg a → wpLexE P ops S eff Q (seg ++ rest) k a w
  | [], _, _, _, h => h
  | o :: seg, k, a, he, h => by
    have h0 : eff k = false := by
      have := List.all_eq_true.1 he 0 (by simp)
      simpa using this
    have he' : (List.range seg.length).all (fun j => !eff (k + 1 + j)) = true := List.all_eq_true.2 fun j hj => by
      have := List.all_eq_true.1 he (j + 1) (by have := List.mem_range.1 hj; simp; omega)
      rw [show k + 1 + j = k + (j + 1) by omega]; exact this
    have hl : k + (o :: seg).length = k + 1 + seg.length := by simp; omega
    rw [hl] at h
    show wpLexE P ops S eff Q (o :: (seg ++ rest)) k a w
    simp only [wpLexE, h0, Bool.false_eq_true, if_false]
    simp only [wpQuiet] at h
    split
    · rename_i hw
      simp only [hw, if_true] at h
      exact Oper.quiet_mono (fun a' h' => wpLexE_quiet seg (k + 1) a' he' h') h
    · rename_i hw
      simp only [hw] at h
      exact wpLexE_quiet seg (k + 1) _ he' h
theorem wpLexE_take {Q : Act → World → Prop} {l : List Oper} {k : Nat} {a : Act} {w : World} (m : Nat) (he : (List.range m).all (fun j => !eff (k + j)) = true) (hm : decide (m ≤ l.length) = true)
    (h : wpQuiet P ops S (fun a' => wpLexE P ops S eff Q (l.drop m) (k + m) a' w) (l.take m) a) : wpLexE P ops S eff Q l k a w := by
  have hl : (l.take m).length = m := by simp only [decide_eq_true_eq] at hm; simp; omega
  have := wpLexE_quiet (P := P) (ops := ops) (S := S) (eff := eff) (Q := Q) (rest := l.drop m) (w := w) (l.take m) k a (by rw [hl]; exact he) (by rw [hl]; exact h)
  rwa [List.take_append_drop] at this
theorem wpLexE_eff {Q : Act → World → Prop} {o : Oper} {rest : List Oper} {k : Nat} {a : Act} {w : World} (he : eff k = true) (hg : o.guard = none)
    (h : wpList P ops (nrm fun a' w' => S w' ∧ wpLexE P ops S eff Q rest (k + 1) a' w') [o] a w) : wpLexE P ops S eff Q (o :: rest) k a w := by
  simp only [wpLexE, he, if_true]
  have hwn : Region.wanted o (yielded ops a.tmps) = true := by simp only [Region.wanted, hg]
  simp only [wpList, hwn, if_true] at h
  rcases h with h | ⟨_, h⟩
  · unfold Oper.wpn Oper.wp at *
    generalize (execOp a.eval o).run P w = r at *
    cases r with
    | ok n w' =>
      cases n <;> simp only [Oper.upon] at h ⊢
      case enter f args =>
        refine Calls.mono h (fun e w'' he => ?_)
        cases e with
        | returned x => exact he.2
        | panicked c => exact absurd he.1 (by simp)
        | outgrown => exact absurd he nrm_out
      case row row args => exact Rows.mono h (fun x w'' he => he.2)
      all_goals exact h.2
    | halt x w' => cases x <;> simp only [Oper.upon] at h ⊢; exact absurd h.1 (by simp)
  · exact absurd h nrm_out

/-- What is asked of a region and its effects. -/
def effB (md : Region.Mode) (ops : Array Oper) (n : Nat) (eff : Nat → Bool) : Bool :=
  (List.range ops.size).all fun j => match ops[j]? with
    | none => true
    | some o => if eff j then o.guard.isNone && (List.range j).all (fun i => !eff i || o.after.any (fun e => Region.binds md e && eff e.on && decide (i ≤ e.on) && decide (e.on < j))) else (decide (n ≤ j) || plainB o)
theorem effB_spec {n : Nat} (h : effB md ops n eff = true) : (∀ i o, ops[i]? = some o → eff i = true → o.guard = none) ∧ (∀ i o, ops[i]? = some o → i < n → eff i = false → NoEnter P o) ∧ Chain md ops eff := by
  have key : ∀ j o, ops[j]? = some o → (if eff j then o.guard.isNone && (List.range j).all (fun i => !eff i || o.after.any (fun e => Region.binds md e && eff e.on && decide (i ≤ e.on) && decide (e.on < j))) else (decide (n ≤ j) || plainB o)) = true := by
    intro j o ho
    have h1 := List.all_eq_true.1 h j (List.mem_range.2 (Array.getElem?_eq_some_iff.1 ho).1)
    simpa only [ho] using h1
  refine ⟨fun i o ho he => ?_, fun i o ho hi he => ?_, fun j o ho he i hi hei => ?_⟩
  · have := key i o ho
    simp only [he, if_true, Bool.and_eq_true] at this
    simpa using this.1
  · have := key i o ho
    simp only [he, Bool.false_eq_true, if_false, Bool.or_eq_true, decide_eq_true_eq] at this
    rcases this with h1 | h1
    · omega
    · exact plain_ok h1
  · have := key j o ho
    simp only [he, if_true, Bool.and_eq_true] at this
    have h2 := List.all_eq_true.1 this.2 i (List.mem_range.2 hi)
    simp only [hei, Bool.not_true, Bool.false_or] at h2
    obtain ⟨e, h3, h4⟩ := Array.any_eq_true'.1 h2
    simp only [Bool.and_eq_true, decide_eq_true_eq] at h4
    exact ⟨e, h3, h4.1.1.1, h4.1.1.2, h4.1.2, h4.2⟩

theorem wpAnyE_lex {n g : Nat} {Lq : Act → World → Prop} (hsel : Region.noSelect ops = true) (hs : Region.sinkB md ops n = true) (hc : Region.chainB md ops n = true) (hn : n < ops.size)
    (hg : ∀ i o, ops[i]? = some o → eff i = true → o.guard = none) (hne : ∀ i o, ops[i]? = some o → i < n → eff i = false → NoEnter P o) (hch : Chain md ops eff) :
    ∀ (l : List Oper) (k : Nat) (listed : Array Bool) (a : Act) (w : World), S w → (∀ j, j < l.length → l[j]? = ops[k + j]?) → k + l.length = n → HeadInv md ops n listed → EffInv ops eff k listed →
    Region.lexHead md ops g l.length k listed = true → wpLexE P ops S eff Lq l k a w →
    wpAnyE P md ops S eff n (fun listed' a' w' => Region.seqB md ops g n listed' = true ∧ Lq a' w') l.length listed a w
  | [], k, listed, a, w, _, _, hk, _, _, hB, h => by
    have : k = n := by simpa using hk
    subst this
    exact ⟨by simpa [Region.lexHead] using hB, h⟩
  | o :: l, k, listed, a, w, hw, hl, hk, inv, einv, hB, h => by
    have h0 : ops[k]? = some o := by simpa using (hl 0 (by simp)).symm
    simp only [List.length_cons, Region.lexHead, Bool.and_eq_true] at hB
    obtain ⟨⟨hr, hf⟩, hB'⟩ := hB
    have hkn : k < n := by simp only [List.length_cons] at hk; omega
    have hr' : k ∈ Region.ready md ops listed := by simpa using hr
    have hl' : ∀ j, j < l.length → l[j]? = ops[k + 1 + j]? := fun j hj => by have := hl (j + 1) (by simp; omega); simpa [Nat.add_assoc, Nat.add_comm 1 j] using this
    have hk' : k + 1 + l.length = n := by simp only [List.length_cons] at hk; omega
    have einv' : EffInv ops eff (k + 1) (listed.setIfInBounds k true) := by
      refine ⟨fun j hj he => ?_, fun j hj hs he => ?_⟩
      · by_cases e : j = k
        · subst e; exact getD_set_self
        · rw [getD_set_ne true (Ne.symm e)]; exact einv.lo j (by omega) he
      · rw [getD_set_ne true (by omega)]; exact einv.hi j (by omega) hs he
    cases hek : eff k with
    | true =>
      simp only [wpLexE, hek, if_true] at h
      refine wpAnyE_eff h0 hek (Region.noSelect_spec hsel) hs hc hn hkn hch hne (fun listed' a' w' hL => seqB_ready hL.1) l.length listed a w hw inv einv (Region.free_spec h0 hf) hr' ?_
      exact wpn_mono (fun a' w' hh => ⟨hh.1, wpAnyE_lex hsel hs hc hn hg hne hch l (k + 1) _ a' w' hh.1 hl' hk' (inv.set hr' hkn) einv' hB' hh.2⟩) h
    | false =>
      simp only [wpLexE, hek, Bool.false_eq_true, if_false] at h
      have hst : qOp P ops S k (fun a' => wpLexE P ops S eff Lq l (k + 1) a' w) a := by unfold qOp; simp only [h0]; exact h
      obtain ⟨v, hy, hK⟩ := yieldsIn_of_qOp h0 hst
      exact wpAnyE_pure h0 hek (Region.noSelect_spec hsel) hs hc hn hkn (fun listed' a' w' hL => seqB_ready hL.1) l.length listed a w hw inv (Region.free_spec h0 hf) hr' hy
        (wpAnyE_lex hsel hs hc hn hg hne hch l (k + 1) _ _ w hw hl' hk' (inv.set hr' hkn) einv' hB' hK)

/-- A region of reads, of effects in one forced order, and of a forced tail from operation n on: S: the worlds that the reads may see. -/
theorem wp_region_eff {id : Nat} {Q : Exit → Act → World → Prop} {a : Act} {w : World} {l : List Oper} (S : World → Prop) (cuts : List Nat) (n : Nat) (hm : P.follows .mixedOrders = true) (hB : Region.lexTailB .any l.toArray n = true)
    (hE : effB .any l.toArray n (fun i => cuts.contains i) = true) (hS : S w.drew)
    (h : wpLexE P l.toArray S (fun i => cuts.contains i) (fun a' w' => wpList P l.toArray Q (l.drop n) a' w') (l.take n) 0 a w.drew) : (Code.region id l.toArray true).wp P Q a w := by
  obtain ⟨hg, hne, hch⟩ := effB_spec (P := P) hE
  simp only [Region.lexTailB, Bool.and_eq_true, decide_eq_true_eq] at hB
  obtain ⟨⟨⟨⟨hsel, hn⟩, hs⟩, hc⟩, hlex⟩ := hB
  have hn' : n < l.length := by simpa using hn
  have htl : (l.take n).length = n := by simp; omega
  have hdl : (l.drop n).length = l.toArray.size - n := by simp
  have inv0 : HeadInv .any l.toArray n (Array.replicate l.toArray.size false) :=
    ⟨by simp, fun j oj _ hl => (by rw [getD_replicate_false] at hl; cases hl), fun t _ ht => getD_in (by simpa using ht) (getD_replicate_false _ _)⟩
  have einv0 : EffInv l.toArray (fun i => cuts.contains i) 0 (Array.replicate l.toArray.size false) := ⟨fun j hj => by omega, fun j _ hj _ => getD_in (by simpa using hj) (getD_replicate_false _ _)⟩
  have H := wpAnyE_lex (md := .any) (g := l.toArray.size - n) hsel hs hc hn hg hne hch (l.take n) 0 _ a w.drew hS (fun j hj => by
    have hj' : j < n := by rw [htl] at hj; exact hj
    simp [hj']) (by simpa using htl) inv0 einv0 (by rw [htl]; exact hlex) h
  refine wp_region_any hm ?_
  have := wpAny_of_eff (Q' := Q) (g := l.toArray.size - n) hg hne (fun listed a' w' _ hL => by
    have := wpAny_of_seq (md := .any) (Q' := Q) (l.drop n) n listed a' w' (fun j => by simp [List.getElem?_drop]) (by rw [hdl]; exact hL.1) hL.2
    rwa [hdl] at this) _ _ _ _ hS H
  rw [htl, show n + (l.toArray.size - n) = l.toArray.size by omega] at this
  exact this
end
end Go.Proofs.YtlpbbjjibnbooaaGreatDoor
