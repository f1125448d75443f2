/-
  A region that draws its order, of plain reads and of operations that turn the world, by a plan: the order is one list, but for places where two such operations may come up one before the other. An operation that turns the world may be guarded, and unwanted. No program stands here.
  slices.Clone of groups; a row of truths; contracts of package vdev: New.
-/
import Derived.Test.YtlpbbjjibnbooaaGreatDoorJ03
import Derived.Test.YtlpbbjjibnbooaaGreatDoorJ06
import Derived.Lib.SliceRun
namespace Go.Proofs.YtlpbbjjibnbooaaGreatDoor
set_option linter.unusedVariables false
set_option linter.unusedSimpArgs false
open Go.RowKit
namespace Pl
section
variable {P : Program} {ops : Array Oper} {md : Region.Mode} {S : World → Prop} {eff : Nat → Bool}

/-- Operation number i comes up. -/
def efOp (P : Program) (ops : Array Oper) (S : World → Prop) (eff : Nat → Bool) (i : Nat) (K : Act → World → Prop) (a : Act) (w : World) : Prop :=
  match ops[i]? with
  | none => K a w
  | some o => if Region.wanted o (yielded ops a.tmps) then (if eff i then Oper.wpn P o a w (fun a' w' => S w' ∧ K a' w') else o.quiet P a S (fun a' => K a' w)) else K (a.put o.dst undef) w
/-- Whatever order is picked. -/
def wpAnyE (P : Program) (md : Region.Mode) (ops : Array Oper) (S : World → Prop) (eff : Nat → Bool) (L : Array Bool → Act → World → Prop) : Nat → Array Bool → Act → World → Prop
  | 0, listed, a, w => L listed a w
  | f + 1, listed, a, w => Region.ready md ops listed ≠ [] ∧ ∀ i ∈ Region.ready md ops listed, efOp P ops S eff i (wpAnyE P md ops S eff L f (listed.setIfInBounds i true)) a w

theorem wpOp_of_efOp {i : Nat} {a : Act} {K : Act → World → Prop} {K' : Act → World → Prop} {Q' : Exit → Act → World → Prop} {w : World} (hw : S w)
    (hne : ∀ o, ops[i]? = some o → eff i = false → NoEnter P o) (h : ∀ a w, S w → K a w → K' a w) (hh : efOp P ops S eff i K a w) : wpOp P ops Q' i K' a w := by
  unfold efOp at hh
  unfold wpOp
  split
  · rename_i ho; simp only [ho] at hh; exact h _ _ hw hh
  · rename_i o ho
    simp only [ho] at hh
    split
    · rename_i hwn
      simp only [hwn, if_true] at hh
      refine .inl ?_
      cases he : eff i with
      | true =>
        simp only [he, if_true] at hh
        unfold Oper.wpn Oper.wp at *
        generalize (execOp a.eval o).run P w = r at *
        cases r with
        | ok n w' =>
          cases n <;> simp only [Oper.upon] at hh ⊢
          case enter f args =>
            refine Calls.mono hh (fun e w'' he => ?_)
            cases e with
            | returned x => exact h _ _ he.1 he.2
            | panicked c => exact absurd he nrm_false
            | outgrown => exact absurd he nrm_out
          case row row args => exact Rows.mono hh (fun x w'' he => h _ _ he.1 he.2)
          all_goals exact h _ _ hh.1 hh.2
        | halt x w' => cases x <;> simp only [Oper.upon] at hh ⊢; exact absurd hh nrm_false
      | false =>
        simp only [he] at hh
        obtain ⟨v, h1, h2⟩ := hh
        have h3 := h1 w hw
        unfold Oper.quietAt at h3
        unfold Oper.wp
        have hN := hne o ho he a.eval w
        generalize (execOp a.eval o).run P w = r at *
        cases r with
        | ok n w' =>
          cases n <;> simp only [Oper.quietUpon] at h3 <;> simp only [Oper.upon]
          case value u => obtain ⟨rfl, rfl⟩ := h3; exact h _ _ hw h2
          case skip => obtain ⟨rfl, rfl⟩ := h3; exact h _ _ hw h2
          case enter f args => exact absurd (hN _ _ rfl) (by simp [entersB])
        | halt x w' => simp only [Oper.quietUpon] at h3
    · rename_i hwn
      simp only [hwn] at hh
      exact h _ _ hw hh

theorem wpAny_of_eff {Q : Act → World → Prop} {Q' : Exit → Act → World → Prop} (hne : ∀ i o, ops[i]? = some o → eff i = false → NoEnter P o) (hQ : ∀ a w, Q a w → Q' .normal a w) :
    ∀ (f : Nat) (listed : Array Bool) (a : Act) (w : World), S w → wpAnyE P md ops S eff (fun listed a w => Region.ready md ops listed = [] ∧ Q a w) f listed a w → wpAny P md ops Q' f listed a w
  | 0, listed, a, w, _, h => ⟨h.1, hQ _ _ h.2⟩
  | f + 1, listed, a, w, hw, h =>
    ⟨fun h0 => absurd h0 h.1, fun i hi => wpOp_of_efOp hw (fun o ho he => hne i o ho he) (fun a' w' hw' h' => wpAny_of_eff hne hQ f _ a' w' hw' h') (h.2 i hi)⟩

/-- Operation i meddles with none of those that are to come and don't wait for it. -/
def Free (md : Region.Mode) (ops : Array Oper) (i : Nat) (oi : Oper) (listed : Array Bool) : Prop :=
  ∀ j oj, ops[j]? = some oj → j ≠ i → listed.getD j true = false → (∀ e ∈ oj.after, Region.binds md e = true → e.on ≠ i) → oi.apart ops oj = true
theorem Free.set {i j : Nat} {oi : Oper} {listed : Array Bool} (h : Free md ops i oi listed) (hj : listed.getD j true = false) : Free md ops i oi (listed.setIfInBounds j true) := fun k ok hk hki hun hno => by
  refine h k ok hk hki ?_ hno
  by_cases hjk : j = k
  · subst hjk; exact hj
  · rw [getD_set_ne true hjk] at hun; exact hun
/-- A read may be taken first. -/
theorem wpAnyE_pure {i : Nat} {oi : Oper} {v : Value} {L : Array Bool → Act → World → Prop} (hi : ops[i]? = some oi) (hie : eff i = false) (hsel : ∀ (j : Nat) (o : Oper) cs b, ops[j]? = some o → o.op ≠ .select cs b)
    (hdone : ∀ listed a w, L listed a w → Region.ready md ops listed = []) :
    ∀ (f : Nat) (listed : Array Bool) (a : Act) (w : World), S w → Free md ops i oi listed → i ∈ Region.ready md ops listed → YieldsIn P ops S oi v a →
      wpAnyE P md ops S eff L f (listed.setIfInBounds i true) (a.put oi.dst v) w → wpAnyE P md ops S eff L (f + 1) listed a w := by
  have step : ∀ {K : Act → World → Prop} {a : Act} {w : World}, YieldsIn P ops S oi v a → K (a.put oi.dst v) w → efOp P ops S eff i K a w := by
    intro K a w hy h
    unfold efOp
    simp only [hi, hie]
    rcases hy with ⟨hw, hv⟩ | ⟨hw, rfl⟩
    · simp only [hw, if_true]; exact ⟨v, hv, h⟩
    · simp only [hw]; exact h
  intro f
  induction f with
  | zero =>
    intro listed a w _ _ hr hy H
    refine ⟨fun h => (by rw [h] at hr; cases hr), fun j hj => ?_⟩
    by_cases hji : j = i
    · subst hji; exact step hy H
    · have h1 := ready_mono hj hji
      rw [hdone _ _ _ H] at h1
      cases h1
  | succ f ih =>
    intro listed a w hw hfree hr hy H
    have hun := (mem_ready.1 hr).1
    refine ⟨fun h => (by rw [h] at hr; cases hr), fun j hj => ?_⟩
    by_cases hji : j = i
    · subst hji; exact step hy H
    · have h1 := H.2 j (ready_mono hj hji)
      obtain ⟨hjun, oj, hoj, hall⟩ := mem_ready.1 hj
      have hnot : ∀ e ∈ oj.after, Region.binds md e = true → e.on ≠ i := fun e he hb heq => by
        have h1 := hall e he hb
        rw [heq, getD_both hun] at h1
        cases h1
      have hap := hfree j oj hoj hji hjun hnot
      obtain ⟨p1, p2, p3⟩ := Oper.apart_spec hap
      have hsi := fun cs b => hsel i oi cs b hi
      have hsj := fun cs b => hsel j oj cs b hoj
      have go : ∀ (a' : Act) (w' : World), S w' → YieldsIn P ops S oi v a' → wpAnyE P md ops S eff L f ((listed.setIfInBounds i true).setIfInBounds j true) (a'.put oi.dst v) w' →
          wpAnyE P md ops S eff L (f + 1) (listed.setIfInBounds j true) a' w' := fun a' w' hw' hy' h' => by
        refine ih (listed.setIfInBounds j true) a' w' hw' (hfree.set hjun) (ready_mono hr (Ne.symm hji)) hy' ?_
        rw [Array.setIfInBounds_comm _ _ hji]
        exact h'
      have hwp := wanted_put (ops := ops) oj a oi.dst v p1
      unfold efOp at h1 ⊢
      simp only [hoj] at h1 ⊢
      rw [hwp] at h1
      cases hwn : Region.wanted oj (yielded ops a.tmps) with
      | false =>
        simp only [hwn] at h1
        refine go _ w hw (hy.of_same (execOp_put oi hsi a oj.dst undef p3) (wanted_put oi a oj.dst undef p3)) ?_
        rw [Act.put_comm a v undef p2] at h1
        exact h1
      | true =>
        simp only [hwn, if_true] at h1 ⊢
        cases hej : eff j with
        | true =>
          simp only [hej, if_true] at h1 ⊢
          refine wpn_mono (fun a' w' hh => ?_) (wpn_put (execOp_put oj hsj a oi.dst v p1) p2 h1)
          obtain ⟨⟨ds, u, rfl⟩, hS, hK⟩ := hh
          refine ⟨hS, go _ _ hS ?_ hK⟩
          have hy2 : YieldsIn P ops S oi v ({ a with defers := ds } : Act) := hy.of_same rfl rfl
          exact hy2.of_same (execOp_put oi hsi _ oj.dst u p3) (wanted_put oi _ oj.dst u p3)
        | false =>
          simp only [hej] at h1 ⊢
          have h2 : qOp P ops S j (fun a' => wpAnyE P md ops S eff L f ((listed.setIfInBounds i true).setIfInBounds j true) a' w) (a.put oi.dst v) := by
            unfold qOp
            simp only [hoj, hwp, hwn, if_true]
            exact h1
          have h3 := qOp_put hoj hap hsi hsj hy h2
          unfold qOp at h3
          simp only [hoj, hwn, if_true] at h3
          exact Oper.quiet_mono (fun a' h' => go a' w hw h'.1 h'.2) h3

/-- What an operation that turns the world, or is not wanted, leaves. -/
theorem efOp_some {i : Nat} {oi : Oper} {a : Act} {w : World} {K : Act → World → Prop} (hi : ops[i]? = some oi) (hie : eff i = true) (hw : S w) (h : efOp P ops S eff i K a w) : ∃ a' w', Shape oi a a' ∧ S w' ∧ K a' w' := by
  unfold efOp at h
  simp only [hi, hie, if_true] at h
  cases hwn : Region.wanted oi (yielded ops a.tmps) with
  | true =>
    simp only [hwn, if_true] at h
    have := wpn_put (P := P) (o := oi) (a := a) (d := none) (v := undef) rfl (fun e h => by cases h) h
    obtain ⟨a', w', h1, h2, h3⟩ := wpn_some this
    exact ⟨a', w', h1, h2, h3⟩
  | false =>
    simp only [hwn] at h
    exact ⟨_, w, ⟨a.defers, undef, rfl⟩, hw, h⟩
/-- It, behind another operation's value. -/
theorem efOp_unput {i : Nat} {oi : Oper} {a : Act} {w : World} {d : Option Tmp} {u : Value} {K K' : Act → World → Prop} (hi : ops[i]? = some oi) (hie : eff i = true) (hw : S w) (he : execOp (a.put d u).eval oi = execOp a.eval oi)
    (hwp : Region.wanted oi (yielded ops (a.put d u).tmps) = Region.wanted oi (yielded ops a.tmps)) (hd : ∀ e, d = some e → oi.dst ≠ some e)
    (h : efOp P ops S eff i K a w) (hK : ∀ (a' : Act) (w' : World), S w' → Shape oi a a' → K a' w' → K' (a'.put d u) w') : efOp P ops S eff i K' (a.put d u) w := by
  unfold efOp at h ⊢
  simp only [hi, hie, if_true] at h ⊢
  rw [hwp]
  cases hwn : Region.wanted oi (yielded ops a.tmps) with
  | true =>
    simp only [hwn, if_true] at h ⊢
    have H0 := wpn_put (P := P) (o := oi) (a := a) (d := none) (v := undef) rfl (fun e h => by cases h) h
    refine wpn_mono (fun a'' w'' hh => ?_) (wpn_unput he hd H0)
    obtain ⟨a', _, rfl, hsh, hS, h'⟩ := hh
    exact ⟨hS, hK a' w'' hS hsh h'⟩
  | false =>
    simp only [hwn] at h ⊢
    have := hK _ w hw ⟨a.defers, undef, rfl⟩ h
    rw [Act.put_comm a u undef (fun e h1 h2 => hd e h1 h2)]
    exact this

/-- The others that turn the world wait for one that is to come. -/
def Waits (md : Region.Mode) (ops : Array Oper) (eff : Nat → Bool) (cands : List Nat) (listed : Array Bool) : Prop :=
  ∀ j oj, ops[j]? = some oj → eff j = true → listed.getD j true = false → j ∉ cands → ∃ e ∈ oj.after, Region.binds md e = true ∧ eff e.on = true ∧ listed.getD e.on true = false
theorem Waits.set {cands : List Nat} {j : Nat} {listed : Array Bool} (h : Waits md ops eff cands listed) (hj : eff j = false) : Waits md ops eff cands (listed.setIfInBounds j true) := fun k ok hk hek hun hno => by
  have hjk : j ≠ k := by rintro rfl; rw [hj] at hek; cases hek
  rw [getD_set_ne true hjk] at hun
  obtain ⟨e, h1, h2, h3, h4⟩ := h k ok hk hek hun hno
  exact ⟨e, h1, h2, h3, by rw [getD_set_ne true (by rintro rfl; rw [hj] at h3; cases h3)]; exact h4⟩
theorem Waits.read {cands : List Nat} {j : Nat} {listed : Array Bool} (h : Waits md ops eff cands listed) (hj : j ∈ Region.ready md ops listed) (hno : j ∉ cands) : eff j = false := by
  cases he : eff j with
  | false => rfl
  | true =>
    obtain ⟨hun, oj, hoj, hall⟩ := mem_ready.1 hj
    obtain ⟨e, h1, h2, _, h4⟩ := h j oj hoj he hun hno
    have h5 := hall e h1 h2
    rw [getD_both h4] at h5
    cases h5

/-- Those that turn the world and may come up next may be taken first. -/
theorem wpAnyE_effs {cands : List Nat} {L : Array Bool → Act → World → Prop} (hsel : ∀ (j : Nat) (o : Oper) cs b, ops[j]? = some o → o.op ≠ .select cs b)
    (hne : ∀ i o, ops[i]? = some o → eff i = false → NoEnter P o) (hdone : ∀ listed a w, L listed a w → Region.ready md ops listed = []) (hc : cands ≠ []) :
    ∀ (f : Nat) (listed : Array Bool) (a : Act) (w : World), S w → Waits md ops eff cands listed →
      (∀ i ∈ cands, eff i = true ∧ i ∈ Region.ready md ops listed ∧ ∃ oi, ops[i]? = some oi ∧ Free md ops i oi listed ∧ efOp P ops S eff i (wpAnyE P md ops S eff L f (listed.setIfInBounds i true)) a w) →
      wpAnyE P md ops S eff L (f + 1) listed a w := by
  obtain ⟨i0, hi0⟩ : ∃ i, i ∈ cands := by
    cases cands with
    | nil => exact absurd rfl hc
    | cons x r => exact ⟨x, List.mem_cons_self⟩
  intro f
  induction f with
  | zero =>
    intro listed a w hw hwt H
    have hr0 := (H i0 hi0).2.1
    refine ⟨fun h => (by rw [h] at hr0; cases hr0), fun j hj => ?_⟩
    by_cases hji : j ∈ cands
    · obtain ⟨_, _, _, _, _, h⟩ := H j hji; exact h
    · obtain ⟨hie, _, oi, hoi, _, h⟩ := H i0 hi0
      obtain ⟨a', w', _, _, h'⟩ := efOp_some hoi hie hw h
      have h1 := ready_mono (i := i0) hj (by rintro rfl; exact hji hi0)
      rw [hdone _ _ _ h'] at h1
      cases h1
  | succ f ih =>
    intro listed a w hw hwt H
    have hr0 := (H i0 hi0).2.1
    refine ⟨fun h => (by rw [h] at hr0; cases hr0), fun j hj => ?_⟩
    by_cases hji : j ∈ cands
    · obtain ⟨_, _, _, _, _, h⟩ := H j hji; exact h
    · have hej := hwt.read hj hji
      obtain ⟨hjun, oj, hoj, hall⟩ := mem_ready.1 hj
      have hsj := fun cs b => hsel j oj cs b hoj
      have look : ∀ i oi, i ∈ cands → ops[i]? = some oi → Free md ops i oi listed → i ∈ Region.ready md ops listed → ∀ (a' : Act) (w' : World), Shape oi a a' → wpAnyE P md ops S eff L (f + 1) (listed.setIfInBounds i true) a' w' →
          (Region.wanted oj (yielded ops a.tmps) = true ∧ ∃ u, (∀ W, S W → oj.quietAt P a S W u) ∧ wpAnyE P md ops S eff L f ((listed.setIfInBounds i true).setIfInBounds j true) (a'.put oj.dst u) w') ∨
          (Region.wanted oj (yielded ops a.tmps) = false ∧ wpAnyE P md ops S eff L f ((listed.setIfInBounds i true).setIfInBounds j true) (a'.put oj.dst undef) w') := by
        intro i oi hic hoi hfree hr a' w' hsh h
        have hne' : j ≠ i := by rintro rfl; exact hji hic
        have hun := (mem_ready.1 hr).1
        have hnot : ∀ e ∈ oj.after, Region.binds md e = true → e.on ≠ i := fun e he hb heq => by
          have h1 := hall e he hb
          rw [heq, getD_both hun] at h1
          cases h1
        obtain ⟨p1, p2, p3⟩ := Oper.apart_spec (hfree j oj hoj hne' hjun hnot)
        obtain ⟨ds, v, rfl⟩ := hsh
        have h1 := h.2 j (ready_mono hj hne')
        unfold efOp at h1
        simp only [hoj, hej] at h1
        have e1 : execOp ((({ a with defers := ds } : Act).put oi.dst v)).eval oj = execOp a.eval oj := execOp_put oj hsj ({ a with defers := ds } : Act) oi.dst v p1
        have e2 : Region.wanted oj (yielded ops ((({ a with defers := ds } : Act).put oi.dst v)).tmps) = Region.wanted oj (yielded ops a.tmps) := wanted_put oj ({ a with defers := ds } : Act) oi.dst v p1
        rw [e2] at h1
        cases hwn : Region.wanted oj (yielded ops a.tmps) with
        | true =>
          simp only [hwn, if_true] at h1
          obtain ⟨u, hu, hk⟩ := h1
          refine .inl ⟨rfl, u, fun W hW => ?_, hk⟩
          have := hu W hW
          unfold Oper.quietAt at this ⊢
          rw [← e1]; exact this
        | false => simp only [hwn] at h1; exact .inr ⟨rfl, h1⟩
      have uniq : ∀ {u u' : Value}, (∀ W, S W → oj.quietAt P a S W u) → (∀ W, S W → oj.quietAt P a S W u') → u = u' := by
        intro u u' h1 h2
        have h1 := h1 w hw
        have h2 := h2 w hw
        unfold Oper.quietAt at h1 h2
        have hN := hne j oj hoj hej a.eval w
        generalize (execOp a.eval oj).run P w = r at *
        cases r with
        | ok nx w' =>
          cases nx <;> simp only [Oper.quietUpon] at h1 h2
          case value x => exact h1.2.symm.trans h2.2
          case skip => exact h1.2.trans h2.2.symm
          case enter f args => exact absurd (hN _ _ rfl) (by simp [entersB])
        | halt x w' => simp only [Oper.quietUpon] at h1
      have next : ∀ u, (∀ i oi, i ∈ cands → ops[i]? = some oi → Free md ops i oi listed → i ∈ Region.ready md ops listed → ∀ (a' : Act) (w' : World), S w' → Shape oi a a' → wpAnyE P md ops S eff L (f + 1) (listed.setIfInBounds i true) a' w' →
            wpAnyE P md ops S eff L f ((listed.setIfInBounds i true).setIfInBounds j true) (a'.put oj.dst u) w') →
          wpAnyE P md ops S eff L (f + 1) (listed.setIfInBounds j true) (a.put oj.dst u) w := by
        intro u hu
        refine ih (listed.setIfInBounds j true) (a.put oj.dst u) w hw (hwt.set hej) fun i hic => ?_
        obtain ⟨hie, hr, oi, hoi, hfree, h⟩ := H i hic
        have hne' : j ≠ i := by rintro rfl; exact hji hic
        have hun := (mem_ready.1 hr).1
        have hnot : ∀ e ∈ oj.after, Region.binds md e = true → e.on ≠ i := fun e he hb heq => by
          have h1 := hall e he hb
          rw [heq, getD_both hun] at h1
          cases h1
        obtain ⟨p1, p2, p3⟩ := Oper.apart_spec (hfree j oj hoj hne' hjun hnot)
        have hsi := fun cs b => hsel i oi cs b hoi
        refine ⟨hie, ready_mono hr (Ne.symm hne'), oi, hoi, hfree.set hjun, ?_⟩
        rw [Array.setIfInBounds_comm _ _ hne']
        exact efOp_unput hoi hie hw (execOp_put oi hsi a oj.dst u p3) (wanted_put oi a oj.dst u p3) (fun e h1 h2 => p2 e h2 h1) h (fun a' w' hS hsh h' => hu i oi hic hoi hfree hr a' w' hS hsh h')
      obtain ⟨hie, hr, oi, hoi, hfree, h⟩ := H i0 hi0
      obtain ⟨a1, w1, hsh1, hS1, h1⟩ := efOp_some hoi hie hw h
      unfold efOp
      simp only [hoj, hej]
      rcases look i0 oi hi0 hoi hfree hr a1 w1 hsh1 h1 with ⟨hwn, u, hu, _⟩ | ⟨hwn, _⟩
      · simp only [hwn, if_true]
        refine ⟨u, hu, next u fun i oi hic hoi hfree hr a' w' hS hsh h' => ?_⟩
        rcases look i oi hic hoi hfree hr a' w' hsh h' with ⟨_, u', hu', h2⟩ | ⟨hwn', _⟩
        · rw [uniq hu hu']; exact h2
        · rw [hwn] at hwn'; cases hwn'
      · simp only [hwn]
        refine next undef fun i oi hic hoi hfree hr a' w' hS hsh h' => ?_
        rcases look i oi hic hoi hfree hr a' w' hsh h' with ⟨hwn', _⟩ | ⟨_, h2⟩
        · rw [hwn] at hwn'; cases hwn'
        · exact h2

/-- The order in which a region is walked. -/
inductive Plan
  | done
  | op (k : Nat) (r : Plan)
  | two (i : Nat) (r : Plan) (j : Nat) (s : Plan)
def Plan.len : Plan → Nat
  | .done => 0
  | .op _ r => r.len + 1
  | .two _ r _ _ => r.len + 1
/-- m operations from k on, then the rest. -/
def Plan.seg (k : Nat) : Nat → Plan → Plan
  | 0, r => r
  | m + 1, r => .op k (Plan.seg (k + 1) m r)
def waitB (md : Region.Mode) (ops : Array Oper) (eff : Nat → Bool) (cands : List Nat) (listed : Array Bool) : Bool :=
  (List.range ops.size).all fun j => match ops[j]? with
    | none => true
    | some o => !eff j || listed.getD j true || cands.contains j || o.after.any (fun e => Region.binds md e && eff e.on && !listed.getD e.on true)
def stepB (md : Region.Mode) (ops : Array Oper) (listed : Array Bool) (k : Nat) : Bool := (Region.ready md ops listed).contains k && Region.free md ops listed k
def planB (md : Region.Mode) (ops : Array Oper) (eff : Nat → Bool) : Plan → Array Bool → Bool
  | .done, listed => (Region.ready md ops listed).isEmpty
  | .op k r, listed => stepB md ops listed k && (!eff k || waitB md ops eff [k] listed) && planB md ops eff r (listed.setIfInBounds k true)
  | .two i r j s, listed => stepB md ops listed i && stepB md ops listed j && eff i && eff j && waitB md ops eff [i, j] listed && decide (r.len = s.len) && planB md ops eff r (listed.setIfInBounds i true) && planB md ops eff s (listed.setIfInBounds j true)
def wpPlan (P : Program) (ops : Array Oper) (S : World → Prop) (eff : Nat → Bool) (Q : Act → World → Prop) : Plan → Act → World → Prop
  | .done, a, w => Q a w
  | .op k r, a, w => efOp P ops S eff k (wpPlan P ops S eff Q r) a w
  | .two i r j s, a, w => efOp P ops S eff i (wpPlan P ops S eff Q r) a w ∧ efOp P ops S eff j (wpPlan P ops S eff Q s) a w

theorem stepB_spec {listed : Array Bool} {k : Nat} (h : stepB md ops listed k = true) : k ∈ Region.ready md ops listed ∧ ∃ o, ops[k]? = some o ∧ Free md ops k o listed := by
  simp only [stepB, Bool.and_eq_true] at h
  have hr : k ∈ Region.ready md ops listed := by simpa using h.1
  obtain ⟨_, o, ho, _⟩ := mem_ready.1 hr
  exact ⟨hr, o, ho, fun j oj hj hne hun hno => Region.free_spec ho h.2 j oj hj hne hun hno⟩
theorem waitB_spec {cands : List Nat} {listed : Array Bool} (h : waitB md ops eff cands listed = true) : Waits md ops eff cands listed := fun j oj hoj he hun hno => by
  have h1 := List.all_eq_true.1 h j (List.mem_range.2 (Array.getElem?_eq_some_iff.1 hoj).1)
  have hcn : cands.contains j = false := by
    cases hc : cands.contains j with
    | false => rfl
    | true => exact absurd (List.contains_iff_mem.1 hc) hno
  simp only [hoj, he, hun, hcn, Bool.not_true, Bool.false_or, Bool.or_false] at h1
  obtain ⟨e, h3, h4⟩ := Array.any_eq_true'.1 h1
  simp only [Bool.and_eq_true, Bool.not_eq_true'] at h4
  exact ⟨e, h3, h4.1.1, h4.1.2, h4.2⟩
theorem efOp_mono {i : Nat} {a : Act} {w : World} {K K' : Act → World → Prop} (h : ∀ a w, S w → K a w → K' a w) (hw : S w) (hh : efOp P ops S eff i K a w) : efOp P ops S eff i K' a w := by
  unfold efOp at *
  split
  · exact h _ _ hw (by simpa [*] using hh)
  · rename_i o ho
    simp only [ho] at hh
    split
    · rename_i hwn
      simp only [hwn, if_true] at hh
      split
      · rename_i he; simp only [he, if_true] at hh; exact wpn_mono (fun _ _ h' => ⟨h'.1, h _ _ h'.1 h'.2⟩) hh
      · rename_i he; simp only [he] at hh; exact Oper.quiet_mono (fun a h' => h a w hw h') hh
    · rename_i hwn; simp only [hwn] at hh; exact h _ _ hw hh
theorem wpAnyE_plan {Q : Act → World → Prop} (hsel : Region.noSelect ops = true) (hne : ∀ i o, ops[i]? = some o → eff i = false → NoEnter P o) :
    ∀ (p : Plan) (listed : Array Bool) (a : Act) (w : World), planB md ops eff p listed = true → S w → wpPlan P ops S eff Q p a w → wpAnyE P md ops S eff (fun listed a w => Region.ready md ops listed = [] ∧ Q a w) p.len listed a w
  | .done, listed, a, w, hB, _, h => ⟨by simpa [planB] using hB, h⟩
  | .op k r, listed, a, w, hB, hw, h => by
    simp only [planB, Bool.and_eq_true] at hB
    obtain ⟨⟨h1, h2⟩, h3⟩ := hB
    obtain ⟨hr, o, ho, hfree⟩ := stepB_spec h1
    have ih : ∀ a w, S w → wpPlan P ops S eff Q r a w → wpAnyE P md ops S eff (fun listed a w => Region.ready md ops listed = [] ∧ Q a w) r.len (listed.setIfInBounds k true) a w := fun a w hw h => wpAnyE_plan hsel hne r (listed.setIfInBounds k true) a w h3 hw h
    cases he : eff k with
    | false =>
      have hst : qOp P ops S k (fun a' => wpPlan P ops S eff Q r a' w) a := by
        have h : efOp P ops S eff k (wpPlan P ops S eff Q r) a w := h
        unfold efOp at h
        unfold qOp
        simp only [ho, he] at h ⊢
        exact h
      obtain ⟨v, hy, hK⟩ := yieldsIn_of_qOp ho hst
      exact wpAnyE_pure ho he (Region.noSelect_spec hsel) (fun _ _ _ h => h.1) r.len listed a w hw hfree hr hy (ih _ w hw hK)
    | true =>
      refine wpAnyE_effs (cands := [k]) (Region.noSelect_spec hsel) hne (fun _ _ _ h => h.1) (by simp) r.len listed a w hw (waitB_spec (by simpa [he] using h2)) fun i hi => ?_
      obtain rfl : i = k := by simpa using hi
      exact ⟨he, hr, o, ho, hfree, efOp_mono (fun a w hw h => ih a w hw h) hw h⟩
  | .two i r j s, listed, a, w, hB, hw, h => by
    simp only [planB, Bool.and_eq_true, decide_eq_true_eq] at hB
    obtain ⟨⟨⟨⟨⟨⟨⟨h1, h2⟩, h3⟩, h4⟩, h5⟩, h6⟩, h7⟩, h8⟩ := hB
    obtain ⟨hr, o, ho, hfree⟩ := stepB_spec h1
    obtain ⟨hr', o', ho', hfree'⟩ := stepB_spec h2
    refine wpAnyE_effs (cands := [i, j]) (Region.noSelect_spec hsel) hne (fun _ _ _ h => h.1) (by simp) r.len listed a w hw (waitB_spec h5) fun k hk => ?_
    simp only [List.mem_cons, List.not_mem_nil, or_false] at hk
    rcases hk with rfl | rfl
    · exact ⟨h3, hr, o, ho, hfree, efOp_mono (fun a w hw h => wpAnyE_plan hsel hne r _ a w h7 hw h) hw h.1⟩
    · refine ⟨h4, hr', o', ho', hfree', efOp_mono (fun a w hw h => ?_) hw h.2⟩
      rw [h6]
      exact wpAnyE_plan hsel hne s _ a w h8 hw h

/-- What is asked of a region and its plan. -/
def regionB (md : Region.Mode) (ops : Array Oper) (eff : Nat → Bool) (p : Plan) : Bool :=
  Region.noSelect ops && decide (p.len = ops.size) && (List.range ops.size).all (fun j => match ops[j]? with | none => true | some o => eff j || plainB o) && planB md ops eff p (Array.replicate ops.size false)
/-- A region that draws its order, by a plan. -/
theorem wp_region_plan {id : Nat} {Q : Exit → Act → World → Prop} {a : Act} {w : World} {l : List Oper} (S : World → Prop) (cuts : List Nat) (p : Plan) (hm : P.follows .mixedOrders = true)
    (hB : regionB .any l.toArray (fun i => cuts.contains i) p = true) (hS : S w.drew)
    (h : wpPlan P l.toArray S (fun i => cuts.contains i) (fun a' w' => Q .normal a' w') p a w.drew) : (Code.region id l.toArray true).wp P Q a w := by
  simp only [regionB, Bool.and_eq_true, decide_eq_true_eq] at hB
  obtain ⟨⟨⟨h1, h2⟩, h3⟩, h4⟩ := hB
  have hne : ∀ i o, l.toArray[i]? = some o → cuts.contains i = false → NoEnter P o := fun i o ho he => by
    have := List.all_eq_true.1 h3 i (List.mem_range.2 (Array.getElem?_eq_some_iff.1 ho).1)
    simp only [ho, he, Bool.false_or] at this
    exact plain_ok this
  have H := wpAnyE_plan (md := .any) h1 hne p _ a w.drew h4 hS h
  refine wp_region_any hm ?_
  have := wpAny_of_eff (Q' := Q) hne (fun _ _ h => h) _ _ _ _ hS H
  rwa [h2] at this

/-- The walk: reads. -/
theorem wpPlan_seg {Q : Act → World → Prop} {r : Plan} {w : World} : ∀ (seg : List Oper) (k : Nat) (a : Act), (List.range seg.length).all (fun j => !eff (k + j)) = true → (∀ j, j < seg.length → ops[k + j]? = seg[j]?) →
    wpQuiet P ops S (fun a' => wpPlan P ops S eff Q r a' w) seg a → wpPlan P ops S eff Q (Plan.seg k seg.length r) a w
  | [], _, _, _, _, h => h
  | o :: seg, k, a, he, hs, h => by
    have h0 : eff k = false := by
      have := List.all_eq_true.1 he 0 (by simp)
      simpa using this
    have he' : (List.range seg.length).all (fun j => !eff (k + 1 + j)) = true := List.all_eq_true.2 fun j hj => by
      have := List.all_eq_true.1 he (j + 1) (by have := List.mem_range.1 hj; simp; omega)
      rw [show k + 1 + j = k + (j + 1) by omega]; exact this
    have hs' : ∀ j, j < seg.length → ops[k + 1 + j]? = seg[j]? := fun j hj => by
      have := hs (j + 1) (by simp; omega)
      rw [show k + 1 + j = k + (j + 1) by omega]; simpa using this
    have ho : ops[k]? = some o := by simpa using hs 0 (by simp)
    show efOp P ops S eff k (wpPlan P ops S eff Q (Plan.seg (k + 1) seg.length r)) a w
    unfold efOp
    simp only [ho, h0]
    simp only [wpQuiet] at h
    split
    · rename_i hw
      simp only [hw, if_true] at h
      exact Oper.quiet_mono (fun a' h' => wpPlan_seg seg (k + 1) a' he' hs' h') h
    · rename_i hw
      simp only [hw] at h
      exact wpPlan_seg seg (k + 1) _ he' hs' h
theorem wpPlan_take {Q : Act → World → Prop} {r : Plan} {l : List Oper} {k : Nat} {a : Act} {w : World} (m : Nat) (he : (List.range m).all (fun j => !eff (k + j)) = true) (hm : decide (k + m ≤ l.length) = true)
    (h : wpQuiet P l.toArray S (fun a' => wpPlan P l.toArray S eff Q r a' w) ((l.drop k).take m) a) : wpPlan P l.toArray S eff Q (Plan.seg k m r) a w := by
  have hl : ((l.drop k).take m).length = m := by simp only [decide_eq_true_eq] at hm; simp; omega
  have := wpPlan_seg (P := P) (ops := l.toArray) (S := S) (eff := eff) (Q := Q) (r := r) (w := w) ((l.drop k).take m) k a (by rw [hl]; exact he) (fun j hj => by
    rw [hl] at hj
    simp [hj]) h
  rwa [hl] at this
/-- The walk: an operation that turns the world. -/
theorem drop_get {l rest : List Oper} {o : Oper} {k : Nat} (h : l.drop k = o :: rest) : l.toArray[k]? = some o := by
  have := congrArg (fun x => x[0]?) h
  simpa using this
theorem efOp_eff {K : Act → World → Prop} {l rest : List Oper} {o : Oper} {k : Nat} {a : Act} {w : World} (he : eff k = true) (hd : l.drop k = o :: rest) (hwn : Region.wanted o (yielded l.toArray a.tmps) = true)
    (h : wpList P l.toArray (nrm fun a' w' => S w' ∧ K a' w') [o] a w) : efOp P l.toArray S eff k K a w := by
  have ho := drop_get hd
  unfold efOp
  simp only [ho, he, hwn, if_true]
  simp only [wpList, hwn, if_true] at h
  rcases h with h | ⟨_, h⟩
  · unfold Oper.wpn Oper.wp at *
    generalize (execOp a.eval o).run P w = r at *
    cases r with
    | ok n w' =>
      cases n <;> simp only [Oper.upon] at h ⊢
      case enter f args =>
        refine Calls.mono h (fun e w'' he => ?_)
        cases e with
        | returned x => exact he.2
        | panicked c => exact absurd he.1 (by simp)
        | outgrown => exact absurd he nrm_out
      case row row args => exact Rows.mono h (fun x w'' he => he.2)
      all_goals exact h.2
    | halt x w' => cases x <;> simp only [Oper.upon] at h ⊢; exact absurd h.1 (by simp)
  · exact absurd h nrm_out
/-- The walk: wanted or not. -/
theorem efOp_any {K : Act → World → Prop} {l rest : List Oper} {o : Oper} {k : Nat} {a : Act} {w : World} (he : eff k = true) (hd : l.drop k = o :: rest)
    (h : wpList P l.toArray (nrm fun a' w' => S w' ∧ K a' w') [o] a w) : efOp P l.toArray S eff k K a w := by
  cases hwn : Region.wanted o (yielded l.toArray a.tmps) with
  | true => exact efOp_eff he hd hwn h
  | false =>
    unfold efOp
    simp only [drop_get hd, hwn]
    simp only [wpList, hwn] at h
    exact h.2.2
end
end Pl
end Go.Proofs.YtlpbbjjibnbooaaGreatDoor

namespace Go.Proofs.YtlpbbjjibnbooaaGreatDoor
set_option linter.unusedVariables false
set_option linter.unusedSimpArgs false
open Go.RowKit

def grL (x : Int × Int) : List Value := [.int .i64 x.1, .int .i64 x.2]
def grC (gs : List (Int × Int)) : List Value := gs.flatMap grL
theorem grC_len (gs : List (Int × Int)) : (grC gs).length = gs.length * 2 := flat_len' grL 2 (fun _ => rfl) gs
theorem grC_one : ∀ (gs : List (Int × Int)), ∀ u ∈ grC gs, u.oneCell' = true := fun gs u hu => by
  simp only [grC, List.mem_flatMap] at hu
  obtain ⟨x, _, hx⟩ := hu
  simp only [grL, List.mem_cons, List.not_mem_nil, or_false] at hx
  rcases hx with rfl | rfl <;> rfl
theorem grC_at {w : World} {b off : Nat} {gs : List (Int × Int)} (h : GsAt w b off gs) {j : Nat} {u : Value} (hu : (grC gs)[j]? = some u) : w.cell? ⟨b, off + j, none⟩ = some u := by
  have hj := (List.getElem?_eq_some_iff.1 hu).1
  rw [grC_len] at hj
  obtain ⟨x, hx⟩ : ∃ x, gs[j / 2]? = some x := ⟨_, List.getElem?_eq_getElem (by omega)⟩
  obtain ⟨h1, h2⟩ := h.2 _ x hx
  have hr : j % 2 < 2 := Nat.mod_lt _ (by omega)
  have key := flat_at' grL 2 (fun _ => rfl) gs (j / 2) x hx (j % 2) hr
  rw [show j / 2 * 2 + j % 2 = j by omega] at key
  have hu' : (grL x)[j % 2]? = some u := key.symm.trans hu
  by_cases e : j % 2 = 0
  · rw [e] at hu'
    cases hu'
    rw [show off + j = off + j / 2 * 2 by omega]
    exact h1
  · have e1 : j % 2 = 1 := by omega
    rw [e1] at hu'
    cases hu'
    rw [show off + j = off + j / 2 * 2 + 1 by omega]
    exact h2
theorem geo_own {w : World} {base g cap : Nat} {t : TypeId} {gs : List (Int × Int)} (h : w.ownsRow base t 2 (.slice (some ⟨g, 0, none⟩) gs.length cap) gs.length (grC gs)) (hl : gs.length ≤ 1000) (hg : g < w.heap.size) : GeoAt w (some ⟨g, 0, none⟩) gs.length gs := by
  refine ⟨rfl, by omega, fun _ => ⟨g, 0, rfl, hg, fun i x hx => ?_⟩⟩
  have k0 := flat_at' grL 2 (fun _ => rfl) gs i x hx 0 (by omega)
  have k1 := flat_at' grL 2 (fun _ => rfl) gs i x hx 1 (by omega)
  have c0 := h.cells rfl (i * 2 + 0) _ k0
  have c1 := h.cells rfl (i * 2 + 1) _ k1
  rw [Addr.add_mid, Nat.zero_add] at c0 c1
  rw [Nat.zero_add]
  exact ⟨c0, c1⟩
theorem Tryz.infoGroup : (Tryz.prog.info? 71).map (fun i => (i.zero, i.size, i.bytes)) = some (some (.agg #[.int .i64 0, .int .i64 0]), 2, 16) := by kernel_rfl
theorem Tryz.infoBool : (Tryz.prog.info? 4).map (fun i => (i.zero, i.size, i.bytes)) = some (some (.bool false), 1, 1) := by kernel_rfl
set_option maxRecDepth 20000 in
theorem cloneG_any {w : World} {b off m c : Nat} {gs : List (Int × Int)} (h : GeoAt w (some ⟨b, off, none⟩) m gs) (h0 : 0 < m) (f1 : gs.length ≤ 1000) :
    Calls Tryz.prog 80 #[.slice (some ⟨b, off, none⟩) m c] w fun e w' => ∃ g cap, e = .returned (.slice (some ⟨g, 0, none⟩) m cap) ∧ GeoAt w' (some ⟨g, 0, none⟩) m gs ∧ w.heap.size ≤ g ∧ g < w'.heap.size ∧ Below w.heap.size w w' := by
  obtain ⟨i0, hi, hz0, hz1, hz2⟩ := info_parts Tryz.infoGroup
  obtain ⟨rfl, _, hg⟩ := h
  obtain ⟨b', off', e, hgs⟩ := hg h0
  cases e
  have H := Lib.hid hgs
  have hq : ∀ W, (binOp .eql 22 (.slice (some ⟨b, off, none⟩) gs.length c) (.slice none 0 0)).run Tryz.prog W = .ok (.bool false) W := fun W => Lib.run_eql_slice_nil W _ _ (some ⟨b, off, none⟩) _ _ _ _ Tryz.underlying22
  clear hgs hg
  go_enter Tryz.func80, Tryz.ntmps80
  have hown : (w.alloc (.cells #[] 71)).ownsRow w.heap.size 71 2 (.slice (some ⟨w.heap.size, 0, none⟩) 0 0) 0 [] :=
    ⟨rfl, .inr ⟨w.heap.size, 0, #[], rfl, Nat.le_refl _, heap_alloc_new w _, Nat.le_refl _, by unfold maxLen; omega, rfl, rfl⟩⟩
  have hnews : ∀ j u, (grC gs)[j]? = some u → (w.alloc (.cells #[] 71)).cell? ((⟨b, off, none⟩ : Addr).add j) = some u := fun j u hu => by
    rw [Addr.add_mid]
    exact cell_alloc (grC_at H.out hu) _
  go_wp2_with (at_builtin; refine wpList_append_own_at _ rfl _ _ 22 rfl w.heap.size 71 i0 _ 2 16 Tryz.underlying22 hi hz0 hz1 hz2 rfl (by decide) _ _ _ rfl hown ⟨b, off, none⟩ gs.length c (grC gs) rfl (grC_len gs) hnews (grC_one gs) (by unfold maxLen; omega) (by omega) (by simp) ?_)
  intro v' w8 hown' hgrow _ _
  have hown' : w8.ownsRow w.heap.size 71 2 v' gs.length (grC gs) := by simpa using hown'
  obtain ⟨g, cap, rfl, _, _⟩ := hown'.form (by omega)
  have HO := Lib.hid hown'
  have HB : Hid (Below w.heap.size w w8) := Lib.hid ((keep_alloc (Below.refl _ w) _).grown hgrow (by simp) (fun y e => by simp [Value.ownBlock] at e; omega))
  clear hown' hgrow hown hnews
  go_wp2_with fail
  go_ret
  have hl := HO.out.lt g rfl
  exact ⟨g, cap, rfl, geo_own HO.out f1 hl.2, hl.1, hl.2, HB.out⟩
theorem mk_bools (w : World) (n : Nat) (hn : n ≤ 16384) : ∃ w1, (Instr.makeSlice 47 (.int .i64 n) (.int .i64 n)).run Tryz.prog w = .ok (.slice (some ⟨w.heap.size, 0, none⟩) n n) w1 ∧
    Blk w1 w.heap.size 4 ((List.replicate n false).map Value.bool).toArray ∧ w1.heap.size = w.heap.size + 1 ∧ Below w.heap.size w w1 := by
  obtain ⟨i0, hi, hz0, hz1, hz2⟩ := info_parts Tryz.infoBool
  have hrun := run_makeSlice w 47 4 i0 (.bool false) Tryz.underlying47 hi hz0 .i64 .i64 n n (by omega) (Int.le_refl _) (by rw [hz1]; omega) (by rw [hz2]; omega) (by omega)
  have hc : madeCells (Value.bool false).cells ((n : Int).toNat * i0.size) = ((List.replicate n false).map Value.bool).toArray := by
    rw [hz1, Int.toNat_natCast, Nat.mul_one]
    apply Array.ext'
    have : (Value.bool false).cells = #[.bool false] := rfl
    rw [this, toList_madeCells_one]
    simp
  rw [hc, Int.toNat_natCast] at hrun
  exact ⟨_, hrun, Blk.new _ _ _, by simp, keep_alloc (Below.refl _ _) _⟩
end Go.Proofs.YtlpbbjjibnbooaaGreatDoor
