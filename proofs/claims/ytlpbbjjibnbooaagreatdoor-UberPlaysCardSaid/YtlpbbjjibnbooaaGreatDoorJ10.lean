/-
  A region that draws its order, of plain reads and a chain of operations that turn the world, without a forced tail. No program stands here.
  Contracts of package vdev: Raw.
  Contracts of package vdev: Here, Flush.
-/
import Derived.Test.YtlpbbjjibnbooaaGreatDoorJ03
import Derived.Test.YtlpbbjjibnbooaaGreatDoorJ08
import Derived.Test.YtlpbbjjibnbooaaGreatDoorJ09
namespace Go.Proofs.YtlpbbjjibnbooaaGreatDoor
set_option linter.unusedVariables false
set_option linter.unusedSimpArgs false
open Go.RowKit
section
variable {P : Program} {ops : Array Oper} {md : Region.Mode} {S : World → Prop} {eff : Nat → Bool}
theorem no_ready {n j : Nat} {listed : Array Bool} (hsz : n = ops.size) (h : n ≤ j) : j ∉ Region.ready md ops listed := fun hj => by
  obtain ⟨_, o, ho, _⟩ := mem_ready.1 hj
  have := (Array.getElem?_eq_some_iff.1 ho).1
  omega
/-- A read may be taken first. -/
theorem wpAnyE_pureA {n i : Nat} {oi : Oper} {v : Value} {L : Array Bool → Act → World → Prop} (hi : ops[i]? = some oi) (hie : eff i = false) (hsel : ∀ (j : Nat) (o : Oper) cs b, ops[j]? = some o → o.op ≠ .select cs b)
    (hsz : n = ops.size) (hin : i < n)
    (hdone : ∀ listed a w, L listed a w → ∀ j ∈ Region.ready md ops listed, n ≤ j) :
    ∀ (f : Nat) (listed : Array Bool) (a : Act) (w : World), S w → HeadInv md ops n listed →
      (∀ j oj, ops[j]? = some oj → j ≠ i → listed.getD j true = false → (∀ e ∈ oj.after, Region.binds md e = true → e.on ≠ i) → oi.apart ops oj = true) →
      i ∈ Region.ready md ops listed → YieldsIn P ops S oi v a →
      wpAnyE P md ops S eff n L f (listed.setIfInBounds i true) (a.put oi.dst v) w → wpAnyE P md ops S eff n L (f + 1) listed a w := by
  have step : ∀ {K : Act → World → Prop} {a : Act} {w : World}, YieldsIn P ops S oi v a → K (a.put oi.dst v) w → efOp P ops S eff i K a w := by
    intro K a w hy h
    unfold efOp
    simp only [hi, hie]
    rcases hy with ⟨hw, hv⟩ | ⟨hw, rfl⟩
    · simp only [hw, if_true]; exact ⟨v, hv, h⟩
    · simp only [hw]; exact h
  intro f
  induction f with
  | zero =>
    intro listed a w _ inv _ hr hy H
    have hun := (mem_ready.1 hr).1
    refine ⟨fun h => (by rw [h] at hr; cases hr), fun j hj => ?_⟩
    have hjn : j < n := by
      rcases Nat.lt_or_ge j n with h | h
      · exact h
      · exact absurd hj (no_ready hsz h)
    refine ⟨hjn, ?_⟩
    by_cases hji : j = i
    · subst hji; exact step hy H
    · have := hdone _ _ _ H j (ready_mono hj hji)
      omega
  | succ f ih =>
    intro listed a w hw inv hfree hr hy H
    have hun := (mem_ready.1 hr).1
    refine ⟨fun h => (by rw [h] at hr; cases hr), fun j hj => ?_⟩
    have hjn : j < n := by
      rcases Nat.lt_or_ge j n with h | h
      · exact h
      · exact absurd hj (no_ready hsz h)
    refine ⟨hjn, ?_⟩
    by_cases hji : j = i
    · subst hji; exact step hy H
    · have h1 := (H.2 j (ready_mono hj hji)).2
      obtain ⟨hjun, oj, hoj, hall⟩ := mem_ready.1 hj
      have hnot : ∀ e ∈ oj.after, Region.binds md e = true → e.on ≠ i := fun e he hb heq => by
        have h1 := hall e he hb
        rw [heq, getD_both hun] at h1
        cases h1
      have hap := hfree j oj hoj hji hjun hnot
      obtain ⟨p1, p2, p3⟩ := Oper.apart_spec hap
      have hfree' : ∀ k ok, ops[k]? = some ok → k ≠ i → (listed.setIfInBounds j true).getD k true = false →
          (∀ e ∈ ok.after, Region.binds md e = true → e.on ≠ i) → oi.apart ops ok = true := fun k ok hk hki hun hno => by
        refine hfree k ok hk hki ?_ hno
        by_cases hjk : j = k
        · subst hjk; exact hjun
        · rw [getD_set_ne true hjk] at hun; exact hun
      have hsi := fun cs b => hsel i oi cs b hi
      have hsj := fun cs b => hsel j oj cs b hoj
      have go : ∀ (a' : Act) (w' : World), S w' → YieldsIn P ops S oi v a' → wpAnyE P md ops S eff n L f ((listed.setIfInBounds i true).setIfInBounds j true) (a'.put oi.dst v) w' →
          wpAnyE P md ops S eff n L (f + 1) (listed.setIfInBounds j true) a' w' := fun a' w' hw' hy' h' => by
        refine ih (listed.setIfInBounds j true) a' w' hw' (inv.set hj hjn) hfree' (ready_mono hr (Ne.symm hji)) hy' ?_
        rw [Array.setIfInBounds_comm _ _ hji]
        exact h'
      cases hej : eff j with
      | true =>
        unfold efOp at h1 ⊢
        simp only [hoj, hej, if_true] at h1 ⊢
        refine wpn_mono (fun a' w' hh => ?_) (wpn_put (execOp_put oj hsj a oi.dst v p1) p2 h1)
        obtain ⟨⟨ds, u, rfl⟩, hS, hK⟩ := hh
        refine ⟨hS, go _ _ hS ?_ hK⟩
        have hy2 : YieldsIn P ops S oi v ({ a with defers := ds } : Act) := hy.of_same rfl rfl
        exact hy2.of_same (execOp_put oi hsi _ oj.dst u p3) (wanted_put oi _ oj.dst u p3)
      | false =>
        have h2 : qOp P ops S j (fun a' => wpAnyE P md ops S eff n L f ((listed.setIfInBounds i true).setIfInBounds j true) a' w) (a.put oi.dst v) := by
          unfold efOp at h1
          unfold qOp
          simp only [hoj, hej] at h1 ⊢
          exact h1
        have h3 := qOp_put hoj hap hsi hsj hy h2
        unfold qOp at h3
        unfold efOp
        simp only [hoj, hej, Bool.false_eq_true, if_false] at h3 ⊢
        split
        · rename_i hwn
          simp only [hwn, if_true] at h3
          exact Oper.quiet_mono (fun a' h' => go a' w hw h'.1 h'.2) h3
        · rename_i hwn
          simp only [hwn] at h3
          exact go _ w hw h3.1 h3.2

/-- An operation that turns the world may be taken first. -/
theorem wpAnyE_effA {n i : Nat} {oi : Oper} {L : Array Bool → Act → World → Prop} (hi : ops[i]? = some oi) (hie : eff i = true) (hsel : ∀ (j : Nat) (o : Oper) cs b, ops[j]? = some o → o.op ≠ .select cs b)
    (hsz : n = ops.size) (hin : i < n) (hch : Chain md ops eff) (hne : ∀ i o, ops[i]? = some o → i < n → eff i = false → NoEnter P o)
    (hdone : ∀ listed a w, L listed a w → ∀ j ∈ Region.ready md ops listed, n ≤ j) :
    ∀ (f : Nat) (listed : Array Bool) (a : Act) (w : World), S w → HeadInv md ops n listed → EffInv ops eff i listed →
      (∀ j oj, ops[j]? = some oj → j ≠ i → listed.getD j true = false → (∀ e ∈ oj.after, Region.binds md e = true → e.on ≠ i) → oi.apart ops oj = true) →
      i ∈ Region.ready md ops listed →
      Oper.wpn P oi a w (fun a' w' => S w' ∧ wpAnyE P md ops S eff n L f (listed.setIfInBounds i true) a' w') → wpAnyE P md ops S eff n L (f + 1) listed a w := by
  have step : ∀ {K : Act → World → Prop} {a : Act} {w : World}, Oper.wpn P oi a w (fun a' w' => S w' ∧ K a' w') → efOp P ops S eff i K a w := by
    intro K a w h
    unfold efOp
    simp only [hi, hie, if_true]
    exact h
  intro f
  induction f with
  | zero =>
    intro listed a w _ inv _ _ hr H
    have hun := (mem_ready.1 hr).1
    refine ⟨fun h => (by rw [h] at hr; cases hr), fun j hj => ?_⟩
    have hjn : j < n := by
      rcases Nat.lt_or_ge j n with h | h
      · exact h
      · exact absurd hj (no_ready hsz h)
    refine ⟨hjn, ?_⟩
    by_cases hji : j = i
    · subst hji; exact step H
    · obtain ⟨a', w', _, h⟩ := wpn_some H
      have := hdone _ _ _ h j (ready_mono hj hji)
      omega
  | succ f ih =>
    intro listed a w hw inv einv hfree hr H
    have hun := (mem_ready.1 hr).1
    refine ⟨fun h => (by rw [h] at hr; cases hr), fun j hj => ?_⟩
    have hjn : j < n := by
      rcases Nat.lt_or_ge j n with h | h
      · exact h
      · exact absurd hj (no_ready hsz h)
    refine ⟨hjn, ?_⟩
    by_cases hji : j = i
    · subst hji; exact step H
    · have hej := eff_waits hch einv hie hj hji
      obtain ⟨hjun, oj, hoj, hall⟩ := mem_ready.1 hj
      have hnot : ∀ e ∈ oj.after, Region.binds md e = true → e.on ≠ i := fun e he hb heq => by
        have h1 := hall e he hb
        rw [heq, getD_both hun] at h1
        cases h1
      have hap := hfree j oj hoj hji hjun hnot
      obtain ⟨p1, p2, p3⟩ := Oper.apart_spec hap
      have hfree' : ∀ k ok, ops[k]? = some ok → k ≠ i → (listed.setIfInBounds j true).getD k true = false →
          (∀ e ∈ ok.after, Region.binds md e = true → e.on ≠ i) → oi.apart ops ok = true := fun k ok hk hki hun hno => by
        refine hfree k ok hk hki ?_ hno
        by_cases hjk : j = k
        · subst hjk; exact hjun
        · rw [getD_set_ne true hjk] at hun; exact hun
      have hsi := fun cs b => hsel i oi cs b hi
      have hsj := fun cs b => hsel j oj cs b hoj
      have p2' : ∀ e, oj.dst = some e → oi.dst ≠ some e := fun e h1 h2 => p2 e h2 h1
      -- what the read does in a frame of oi's making
      have look : ∀ (a' : Act) (w' : World), S w' → Shape oi a a' → wpAnyE P md ops S eff n L (f + 1) (listed.setIfInBounds i true) a' w' →
          (Region.wanted oj (yielded ops a.tmps) = true ∧ ∃ u, (∀ W, S W → oj.quietAt P a S W u) ∧ wpAnyE P md ops S eff n L f ((listed.setIfInBounds i true).setIfInBounds j true) (a'.put oj.dst u) w') ∨
          (Region.wanted oj (yielded ops a.tmps) = false ∧ wpAnyE P md ops S eff n L f ((listed.setIfInBounds i true).setIfInBounds j true) (a'.put oj.dst undef) w') := by
        intro a' w' hS hsh h
        obtain ⟨ds, v, rfl⟩ := hsh
        have h1 := (h.2 j (ready_mono hj hji)).2
        unfold efOp at h1
        simp only [hoj, hej] at h1
        have e1 : execOp ((({ a with defers := ds } : Act).put oi.dst v)).eval oj = execOp a.eval oj := execOp_put oj hsj ({ a with defers := ds } : Act) oi.dst v p1
        have e2 : Region.wanted oj (yielded ops ((({ a with defers := ds } : Act).put oi.dst v)).tmps) = Region.wanted oj (yielded ops a.tmps) := wanted_put oj ({ a with defers := ds } : Act) oi.dst v p1
        rw [e2] at h1
        cases hwn : Region.wanted oj (yielded ops a.tmps) with
        | true =>
          simp only [hwn, if_true] at h1
          obtain ⟨u, hu, hk⟩ := h1
          refine .inl ⟨rfl, u, fun W hW => ?_, hk⟩
          have := hu W hW
          unfold Oper.quietAt at this ⊢
          rw [← e1]; exact this
        | false => simp only [hwn] at h1; exact .inr ⟨rfl, h1⟩
      have uniq : ∀ {u u' : Value} {W : World}, S W → (∀ W, S W → oj.quietAt P a S W u) → (∀ W, S W → oj.quietAt P a S W u') → u = u' := by
        intro u u' W hW h1 h2
        have h1 := h1 W hW
        have h2 := h2 W hW
        unfold Oper.quietAt at h1 h2
        have hN := hne j oj hoj hjn hej a.eval W
        generalize (execOp a.eval oj).run P W = r at *
        cases r with
        | ok nx w' =>
          cases nx <;> simp only [Oper.quietUpon] at h1 h2
          case value x => exact h1.2.symm.trans h2.2
          case skip => exact h1.2.trans h2.2.symm
          case enter f args => exact absurd (hN _ _ rfl) (by simp [entersB])
        | halt x w' => simp only [Oper.quietUpon] at h1
      have H0 : Oper.wpn P oi a w (fun a' w' => Shape oi a a' ∧ S w' ∧ wpAnyE P md ops S eff n L (f + 1) (listed.setIfInBounds i true) a' w') := by
        have := wpn_put (P := P) (o := oi) (a := a) (d := none) (v := undef) rfl (fun e h => by cases h) H
        exact wpn_mono (fun a' w' h => h) this
      obtain ⟨a1, w1, hsh1, hS1, h1⟩ := wpn_some H0
      have next : ∀ u, (∀ (a' : Act) (w' : World), S w' → Shape oi a a' → wpAnyE P md ops S eff n L (f + 1) (listed.setIfInBounds i true) a' w' → wpAnyE P md ops S eff n L f ((listed.setIfInBounds i true).setIfInBounds j true) (a'.put oj.dst u) w') →
          wpAnyE P md ops S eff n L (f + 1) (listed.setIfInBounds j true) (a.put oj.dst u) w := by
        intro u hu
        refine ih (listed.setIfInBounds j true) (a.put oj.dst u) w hw (inv.set hj hjn) (einv.set hej) hfree' (ready_mono hr (Ne.symm hji)) ?_
        rw [Array.setIfInBounds_comm _ _ hji]
        refine wpn_mono (fun a'' w'' hh => ?_) (wpn_unput (execOp_put oi hsi a oj.dst u p3) p2' H0)
        obtain ⟨a', _, rfl, hsh, hS, h'⟩ := hh
        exact ⟨hS, hu a' w'' hS hsh h'⟩
      unfold efOp
      simp only [hoj, hej, Bool.false_eq_true, if_false]
      rcases look a1 w1 hS1 hsh1 h1 with ⟨hwn, u, hu, _⟩ | ⟨hwn, _⟩
      · simp only [hwn, if_true]
        refine ⟨u, hu, next u fun a' w' hS hsh h' => ?_⟩
        rcases look a' w' hS hsh h' with ⟨_, u', hu', h2⟩ | ⟨hwn', _⟩
        · rw [uniq hS hu hu']; exact h2
        · rw [hwn] at hwn'; cases hwn'
      · simp only [hwn]
        refine next undef fun a' w' hS hsh h' => ?_
        rcases look a' w' hS hsh h' with ⟨hwn', _⟩ | ⟨_, h2⟩
        · rw [hwn] at hwn'; cases hwn'
        · exact h2

theorem wpAnyE_lexA {n g : Nat} {Lq : Act → World → Prop} (hsel : Region.noSelect ops = true) (hsz : n = ops.size)
    (hg : ∀ i o, ops[i]? = some o → eff i = true → o.guard = none) (hne : ∀ i o, ops[i]? = some o → i < n → eff i = false → NoEnter P o) (hch : Chain md ops eff) :
    ∀ (l : List Oper) (k : Nat) (listed : Array Bool) (a : Act) (w : World), S w → (∀ j, j < l.length → l[j]? = ops[k + j]?) → k + l.length = n → HeadInv md ops n listed → EffInv ops eff k listed →
    Region.lexHead md ops g l.length k listed = true → wpLexE P ops S eff Lq l k a w →
    wpAnyE P md ops S eff n (fun listed' a' w' => Region.seqB md ops g n listed' = true ∧ Lq a' w') l.length listed a w
  | [], k, listed, a, w, _, _, hk, _, _, hB, h => by
    have : k = n := by simpa using hk
    subst this
    exact ⟨by simpa [Region.lexHead] using hB, h⟩
  | o :: l, k, listed, a, w, hw, hl, hk, inv, einv, hB, h => by
    have h0 : ops[k]? = some o := by simpa using (hl 0 (by simp)).symm
    simp only [List.length_cons, Region.lexHead, Bool.and_eq_true] at hB
    obtain ⟨⟨hr, hf⟩, hB'⟩ := hB
    have hkn : k < n := by simp only [List.length_cons] at hk; omega
    have hr' : k ∈ Region.ready md ops listed := by simpa using hr
    have hl' : ∀ j, j < l.length → l[j]? = ops[k + 1 + j]? := fun j hj => by have := hl (j + 1) (by simp; omega); simpa [Nat.add_assoc, Nat.add_comm 1 j] using this
    have hk' : k + 1 + l.length = n := by simp only [List.length_cons] at hk; omega
    have einv' : EffInv ops eff (k + 1) (listed.setIfInBounds k true) := by
      refine ⟨fun j hj he => ?_, fun j hj hs he => ?_⟩
      · by_cases e : j = k
        · subst e; exact getD_set_self
        · rw [getD_set_ne true (Ne.symm e)]; exact einv.lo j (by omega) he
      · rw [getD_set_ne true (by omega)]; exact einv.hi j (by omega) hs he
    cases hek : eff k with
    | true =>
      simp only [wpLexE, hek, if_true] at h
      refine wpAnyE_effA h0 hek (Region.noSelect_spec hsel) hsz hkn hch hne (fun listed' a' w' hL => seqB_ready hL.1) l.length listed a w hw inv einv (Region.free_spec h0 hf) hr' ?_
      exact wpn_mono (fun a' w' hh => ⟨hh.1, wpAnyE_lexA hsel hsz hg hne hch l (k + 1) _ a' w' hh.1 hl' hk' (inv.set hr' hkn) einv' hB' hh.2⟩) h
    | false =>
      simp only [wpLexE, hek, Bool.false_eq_true, if_false] at h
      have hst : qOp P ops S k (fun a' => wpLexE P ops S eff Lq l (k + 1) a' w) a := by unfold qOp; simp only [h0]; exact h
      obtain ⟨v, hy, hK⟩ := yieldsIn_of_qOp h0 hst
      exact wpAnyE_pureA h0 hek (Region.noSelect_spec hsel) hsz hkn (fun listed' a' w' hL => seqB_ready hL.1) l.length listed a w hw inv (Region.free_spec h0 hf) hr' hy
        (wpAnyE_lexA hsel hsz hg hne hch l (k + 1) _ _ w hw hl' hk' (inv.set hr' hkn) einv' hB' hK)


/-- A region of reads and of effects in one forced order: S: the worlds that the reads may see. -/
theorem wp_region_effA {id : Nat} {Q : Exit → Act → World → Prop} {a : Act} {w : World} {l : List Oper} (S : World → Prop) (cuts : List Nat) (hm : P.follows .mixedOrders = true)
    (hB : (Region.noSelect l.toArray && Region.lexHead .any l.toArray 0 l.length 0 (Array.replicate l.toArray.size false)) = true)
    (hE : effB .any l.toArray l.length (fun i => cuts.contains i) = true) (hS : S w.drew)
    (h : wpLexE P l.toArray S (fun i => cuts.contains i) (fun a' w' => Q .normal a' w') l 0 a w.drew) : (Code.region id l.toArray true).wp P Q a w := by
  obtain ⟨hg, hne, hch⟩ := effB_spec (P := P) hE
  simp only [Bool.and_eq_true] at hB
  obtain ⟨hsel, hlex⟩ := hB
  have inv0 : HeadInv .any l.toArray l.length (Array.replicate l.toArray.size false) :=
    ⟨by simp, fun j oj _ hl => (by rw [getD_replicate_false] at hl; cases hl), fun t h1 h2 => by simp at h2; omega⟩
  have einv0 : EffInv l.toArray (fun i => cuts.contains i) 0 (Array.replicate l.toArray.size false) := ⟨fun j hj => by omega, fun j _ hj _ => getD_in (by simpa using hj) (getD_replicate_false _ _)⟩
  have H := wpAnyE_lexA (md := .any) (g := 0) hsel (by simp) hg hne hch l 0 _ a w.drew hS (fun j hj => by simp) (by simp) inv0 einv0 hlex h
  refine wp_region_any hm ?_
  have := wpAny_of_eff (Q' := Q) (g := 0) hg hne (fun listed a' w' _ hL => by
    exact ⟨by simpa [Region.seqB] using hL.1, hL.2⟩) _ _ _ _ hS H
  simpa using this
end
end Go.Proofs.YtlpbbjjibnbooaaGreatDoor

namespace Go.Proofs.YtlpbbjjibnbooaaGreatDoor
set_option linter.unusedVariables false
set_option linter.unusedSimpArgs false
open Go.RowKit

end Go.Proofs.YtlpbbjjibnbooaaGreatDoor

namespace Go.Proofs.YtlpbbjjibnbooaaGreatDoor
set_option linter.unusedVariables false
set_option linter.unusedSimpArgs false
open Go.RowKit

theorem hereD_at {aw : List Bool} {ds : List DevD} {i : Nat} {a : Bool} {d : DevD} (ha : aw[i]? = some a) (hd : ds[i]? = some d) : hereD aw ds i = (!a && !d.lost) := by
  unfold hereD
  rw [List.getD_eq_getElem?_getD, ha, hd]
  rfl
/-- Who is here, is asked. -/
theorem hereV_any {w : World} {S : Nat → Nat → Prop} {U : Nat → Prop} {x : VX} {aw : List Bool} {ds : List DevD} (h : VdIn w S U x aw ds) {i : Nat} (hi : i < x.bd.length) :
    Calls Tryz.prog 87 #[x.val, .int .i64 i] w fun e w' => e = .returned (.bool (hereD aw ds i)) ∧ Below w.heap.size w w' := by
  obtain ⟨d, hd⟩ : ∃ d, ds[i]? = some d := ⟨_, List.getElem?_eq_getElem (by rw [h.n2]; exact hi)⟩
  obtain ⟨a, ha⟩ : ∃ a, aw[i]? = some a := ⟨_, List.getElem?_eq_getElem (by rw [h.n1]; exact hi)⟩
  rw [hereD_at ha hd]
  exact here_any h ha hd
def goneN (aw : List Bool) (ds : List DevD) (k : Nat) : Nat := ((List.range k).filter fun i => !hereD aw ds i).length
section
variable {aw : List Bool} {ds : List DevD}
theorem goneN_step (k : Nat) : goneN aw ds (k + 1) = goneN aw ds k + if hereD aw ds k then 0 else 1 := by
  unfold goneN
  rw [List.range_succ, List.filter_append, List.length_append]
  cases h : hereD aw ds k <;> simp [h]
theorem goneN_le (k : Nat) : goneN aw ds k ≤ k := by
  unfold goneN
  exact Nat.le_trans (List.length_filter_le _ _) (by simp)
end
end Go.Proofs.YtlpbbjjibnbooaaGreatDoor
