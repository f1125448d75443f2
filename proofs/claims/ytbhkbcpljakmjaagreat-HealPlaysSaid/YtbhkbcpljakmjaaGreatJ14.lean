/-
  A region that draws its order, of plain reads and a chain of operations that turn the world, without a forced tail. No program stands here.
  Contracts of package vdev: Raw.
  Contracts of package vdev: Here, Flush.
-/
import Derived.Test.YtbhkbcpljakmjaaGreatJ03
import Derived.Test.YtbhkbcpljakmjaaGreatJ10
import Derived.Test.YtbhkbcpljakmjaaGreatJ13
namespace Go.Proofs.YtbhkbcpljakmjaaGreat
set_option linter.unusedVariables false
set_option linter.unusedSimpArgs false
open Go.RowKit
section
variable {P : Program} {ops : Array Oper} {md : Region.Mode} {S : World → Prop} {eff : Nat → Bool}
theorem no_ready {n j : Nat} {listed : Array Bool} (hsz : n = ops.size) (h : n ≤ j) : j ∉ Region.ready md ops listed := fun hj => by
 obtain ⟨_, o, ho, _⟩ := mem_ready.1 hj
 have := (Array.getElem?_eq_some_iff.1 ho).1
 omega
theorem wpAnyE_pureA {n i : Nat} {oi : Oper} {v : Value} {L : Array Bool → Act → World → Prop} (hi : ops[i]? = some oi) (hie : eff i = false) (hsel : ∀ (j : Nat) (o : Oper) cs b, ops[j]? = some o → o.op ≠ .select cs b)
 (hsz : n = ops.size) (hin : i < n)
 (hdone : ∀ listed a w, L listed a w → ∀ j ∈ Region.ready md ops listed, n ≤ j) :
 ∀ (f : Nat) (listed : Array Bool) (a : Act) (w : World), S w → HeadInv md ops n listed →
   (∀ j oj, ops[j]? = some oj → j ≠ i → listed.getD j true = false → (∀ e ∈ oj.after, Region.binds md e = true → e.on ≠ i) → oi.apart ops oj = true) →
   i ∈ Region.ready md ops listed → YieldsIn P ops S oi v a →
   wpAnyE P md ops S eff n L f (listed.setIfInBounds i true) (a.put oi.dst v) w → wpAnyE P md ops S eff n L (f + 1) listed a w := by
 have step : ∀ {K : Act → World → Prop} {a : Act} {w : World}, YieldsIn P ops S oi v a → K (a.put oi.dst v) w → efOp P ops S eff i K a w := by
  intro K a w hy h
  unfold efOp
  simp only [hi, hie]
  rcases hy with ⟨hw, hv⟩ | ⟨hw, rfl⟩
  · simp only [hw, if_true]; exact ⟨v, hv, h⟩
  · simp only [hw]; exact h
 intro f
 induction f with
 | zero =>
  intro listed a w _ inv _ hr hy H
  have hun := (mem_ready.1 hr).1
  refine ⟨fun h => (by rw [h] at hr; cases hr), fun j hj => ?_⟩
  have hjn : j < n := by
   rcases Nat.lt_or_ge j n with h | h
   · exact h
   · exact absurd hj (no_ready hsz h)
  refine ⟨hjn, ?_⟩
  by_cases hji : j = i
  · subst hji; exact step hy H
  · have := hdone _ _ _ H j (ready_mono hj hji)
    omega
 | succ f ih =>
  intro listed a w hw inv hfree hr hy H
  have hun := (mem_ready.1 hr).1
  refine ⟨fun h => (by rw [h] at hr; cases hr), fun j hj => ?_⟩
  have hjn : j < n := by
   rcases Nat.lt_or_ge j n with h | h
   · exact h
   · exact absurd hj (no_ready hsz h)
  refine ⟨hjn, ?_⟩
  by_cases hji : j = i
  · subst hji; exact step hy H
  · have h1 := (H.2 j (ready_mono hj hji)).2
    obtain ⟨hjun, oj, hoj, hall⟩ := mem_ready.1 hj
    have hnot : ∀ e ∈ oj.after, Region.binds md e = true → e.on ≠ i := fun e he hb heq => by
     have h1 := hall e he hb
     rw [heq, getD_both hun] at h1
     cases h1
    have hap := hfree j oj hoj hji hjun hnot
    obtain ⟨p1, p2, p3⟩ := Oper.apart_spec hap
    have hfree' : ∀ k ok, ops[k]? = some ok → k ≠ i → (listed.setIfInBounds j true).getD k true = false →
     (∀ e ∈ ok.after, Region.binds md e = true → e.on ≠ i) → oi.apart ops ok = true := fun k ok hk hki hun hno => by
     refine hfree k ok hk hki ?_ hno
     by_cases hjk : j = k
     · subst hjk; exact hjun
     · rw [getD_set_ne true hjk] at hun; exact hun
    have hsi := fun cs b => hsel i oi cs b hi
    have hsj := fun cs b => hsel j oj cs b hoj
    have go : ∀ (a' : Act) (w' : World), S w' → YieldsIn P ops S oi v a' → wpAnyE P md ops S eff n L f ((listed.setIfInBounds i true).setIfInBounds j true) (a'.put oi.dst v) w' →
     wpAnyE P md ops S eff n L (f + 1) (listed.setIfInBounds j true) a' w' := fun a' w' hw' hy' h' => by
     refine ih (listed.setIfInBounds j true) a' w' hw' (inv.set hj hjn) hfree' (ready_mono hr (Ne.symm hji)) hy' ?_
     rw [Array.setIfInBounds_comm _ _ hji]
     exact h'
    cases hej : eff j with
    | true =>
     unfold efOp at h1 ⊢
     simp only [hoj, hej, if_true] at h1 ⊢
     refine wpn_mono (fun a' w' hh => ?_) (wpn_put (execOp_put oj hsj a oi.dst v p1) p2 h1)
     obtain ⟨⟨ds, u, rfl⟩, hS, hK⟩ := hh
     refine ⟨hS, go _ _ hS ?_ hK⟩
     have hy2 : YieldsIn P ops S oi v ({ a with defers := ds } : Act) := hy.of_same rfl rfl
     exact hy2.of_same (execOp_put oi hsi _ oj.dst u p3) (wanted_put oi _ oj.dst u p3)
    | false =>
     have h2 : qOp P ops S j (fun a' => wpAnyE P md ops S eff n L f ((listed.setIfInBounds i true).setIfInBounds j true) a' w) (a.put oi.dst v) := by
      unfold efOp at h1
      unfold qOp
      simp only [hoj, hej] at h1 ⊢
      exact h1
     have h3 := qOp_put hoj hap hsi hsj hy h2
     unfold qOp at h3
     unfold efOp
     simp only [hoj, hej, Bool.false_eq_true, if_false] at h3 ⊢
     split
     · rename_i hwn
       simp only [hwn, if_true] at h3
       exact Oper.quiet_mono (fun a' h' => go a' w hw h'.1 h'.2) h3
     · rename_i hwn
       simp only [hwn] at h3
       exact go _ w hw h3.1 h3.2
theorem wpAnyE_effA {n i : Nat} {oi : Oper} {L : Array Bool → Act → World → Prop} (hi : ops[i]? = some oi) (hie : eff i = true) (hsel : ∀ (j : Nat) (o : Oper) cs b, ops[j]? = some o → o.op ≠ .select cs b)
 (hsz : n = ops.size) (hin : i < n) (hch : Chain md ops eff) (hne : ∀ i o, ops[i]? = some o → i < n → eff i = false → NoEnter P o)
 (hdone : ∀ listed a w, L listed a w → ∀ j ∈ Region.ready md ops listed, n ≤ j) :
 ∀ (f : Nat) (listed : Array Bool) (a : Act) (w : World), S w → HeadInv md ops n listed → EffInv ops eff i listed →
   (∀ j oj, ops[j]? = some oj → j ≠ i → listed.getD j true = false → (∀ e ∈ oj.after, Region.binds md e = true → e.on ≠ i) → oi.apart ops oj = true) →
   i ∈ Region.ready md ops listed →
   Oper.wpn P oi a w (fun a' w' => S w' ∧ wpAnyE P md ops S eff n L f (listed.setIfInBounds i true) a' w') → wpAnyE P md ops S eff n L (f + 1) listed a w := by
 have step : ∀ {K : Act → World → Prop} {a : Act} {w : World}, Oper.wpn P oi a w (fun a' w' => S w' ∧ K a' w') → efOp P ops S eff i K a w := by
  intro K a w h
  unfold efOp
  simp only [hi, hie, if_true]
  exact h
 intro f
 induction f with
 | zero =>
  intro listed a w _ inv _ _ hr H
  have hun := (mem_ready.1 hr).1
  refine ⟨fun h => (by rw [h] at hr; cases hr), fun j hj => ?_⟩
  have hjn : j < n := by
   rcases Nat.lt_or_ge j n with h | h
   · exact h
   · exact absurd hj (no_ready hsz h)
  refine ⟨hjn, ?_⟩
  by_cases hji : j = i
  · subst hji; exact step H
  · obtain ⟨a', w', _, h⟩ := wpn_some H
    have := hdone _ _ _ h j (ready_mono hj hji)
    omega
 | succ f ih =>
  intro listed a w hw inv einv hfree hr H
  have hun := (mem_ready.1 hr).1
  refine ⟨fun h => (by rw [h] at hr; cases hr), fun j hj => ?_⟩
  have hjn : j < n := by
   rcases Nat.lt_or_ge j n with h | h
   · exact h
   · exact absurd hj (no_ready hsz h)
  refine ⟨hjn, ?_⟩
  by_cases hji : j = i
  · subst hji; exact step H
  · have hej := eff_waits hch einv hie hj hji
    obtain ⟨hjun, oj, hoj, hall⟩ := mem_ready.1 hj
    have hnot : ∀ e ∈ oj.after, Region.binds md e = true → e.on ≠ i := fun e he hb heq => by
     have h1 := hall e he hb
     rw [heq, getD_both hun] at h1
     cases h1
    have hap := hfree j oj hoj hji hjun hnot
    obtain ⟨p1, p2, p3⟩ := Oper.apart_spec hap
    have hfree' : ∀ k ok, ops[k]? = some ok → k ≠ i → (listed.setIfInBounds j true).getD k true = false →
     (∀ e ∈ ok.after, Region.binds md e = true → e.on ≠ i) → oi.apart ops ok = true := fun k ok hk hki hun hno => by
     refine hfree k ok hk hki ?_ hno
     by_cases hjk : j = k
     · subst hjk; exact hjun
     · rw [getD_set_ne true hjk] at hun; exact hun
    have hsi := fun cs b => hsel i oi cs b hi
    have hsj := fun cs b => hsel j oj cs b hoj
    have p2' : ∀ e, oj.dst = some e → oi.dst ≠ some e := fun e h1 h2 => p2 e h2 h1
    -- what the read does in a frame of oi's making
    have look : ∀ (a' : Act) (w' : World), S w' → Shape oi a a' → wpAnyE P md ops S eff n L (f + 1) (listed.setIfInBounds i true) a' w' →
     (Region.wanted oj (yielded ops a.tmps) = true ∧ ∃ u, (∀ W, S W → oj.quietAt P a S W u) ∧ wpAnyE P md ops S eff n L f ((listed.setIfInBounds i true).setIfInBounds j true) (a'.put oj.dst u) w') ∨
     (Region.wanted oj (yielded ops a.tmps) = false ∧ wpAnyE P md ops S eff n L f ((listed.setIfInBounds i true).setIfInBounds j true) (a'.put oj.dst undef) w') := by
     intro a' w' hS hsh h
     obtain ⟨ds, v, rfl⟩ := hsh
     have h1 := (h.2 j (ready_mono hj hji)).2
     unfold efOp at h1
     simp only [hoj, hej] at h1
     have e1 : execOp ((({ a with defers := ds } : Act).put oi.dst v)).eval oj = execOp a.eval oj := execOp_put oj hsj ({ a with defers := ds } : Act) oi.dst v p1
     have e2 : Region.wanted oj (yielded ops ((({ a with defers := ds } : Act).put oi.dst v)).tmps) = Region.wanted oj (yielded ops a.tmps) := wanted_put oj ({ a with defers := ds } : Act) oi.dst v p1
     rw [e2] at h1
     cases hwn : Region.wanted oj (yielded ops a.tmps) with
     | true =>
      simp only [hwn, if_true] at h1
      obtain ⟨u, hu, hk⟩ := h1
      refine .inl ⟨rfl, u, fun W hW => ?_, hk⟩
      have := hu W hW
      unfold Oper.quietAt at this ⊢
      rw [← e1]; exact this
     | false => simp only [hwn] at h1; exact .inr ⟨rfl, h1⟩
    have uniq : ∀ {u u' : Value} {W : World}, S W → (∀ W, S W → oj.quietAt P a S W u) → (∀ W, S W → oj.quietAt P a S W u') → u = u' := by
     intro u u' W hW h1 h2
     have h1 := h1 W hW
     have h2 := h2 W hW
     unfold Oper.quietAt at h1 h2
     have hN := hne j oj hoj hjn hej a.eval W
     generalize (execOp a.eval oj).run P W = r at *
     cases r with
     | ok nx w' =>
      cases nx <;> simp only [Oper.quietUpon] at h1 h2
      case value x => exact h1.2.symm.trans h2.2
      case skip => exact h1.2.trans h2.2.symm
      case enter f args => exact absurd (hN _ _ rfl) (by simp [entersB])
     | halt x w' => simp only [Oper.quietUpon] at h1
    have H0 : Oper.wpn P oi a w (fun a' w' => Shape oi a a' ∧ S w' ∧ wpAnyE P md ops S eff n L (f + 1) (listed.setIfInBounds i true) a' w') := by
     have := wpn_put (P := P) (o := oi) (a := a) (d := none) (v := undef) rfl (fun e h => by cases h) H
     exact wpn_mono (fun a' w' h => h) this
    obtain ⟨a1, w1, hsh1, hS1, h1⟩ := wpn_some H0
    have next : ∀ u, (∀ (a' : Act) (w' : World), S w' → Shape oi a a' → wpAnyE P md ops S eff n L (f + 1) (listed.setIfInBounds i true) a' w' → wpAnyE P md ops S eff n L f ((listed.setIfInBounds i true).setIfInBounds j true) (a'.put oj.dst u) w') →
     wpAnyE P md ops S eff n L (f + 1) (listed.setIfInBounds j true) (a.put oj.dst u) w := by
     intro u hu
     refine ih (listed.setIfInBounds j true) (a.put oj.dst u) w hw (inv.set hj hjn) (einv.set hej) hfree' (ready_mono hr (Ne.symm hji)) ?_
     rw [Array.setIfInBounds_comm _ _ hji]
     refine wpn_mono (fun a'' w'' hh => ?_) (wpn_unput (execOp_put oi hsi a oj.dst u p3) p2' H0)
     obtain ⟨a', _, rfl, hsh, hS, h'⟩ := hh
     exact ⟨hS, hu a' w'' hS hsh h'⟩
    unfold efOp
    simp only [hoj, hej, Bool.false_eq_true, if_false]
    rcases look a1 w1 hS1 hsh1 h1 with ⟨hwn, u, hu, _⟩ | ⟨hwn, _⟩
    · simp only [hwn, if_true]
      refine ⟨u, hu, next u fun a' w' hS hsh h' => ?_⟩
      rcases look a' w' hS hsh h' with ⟨_, u', hu', h2⟩ | ⟨hwn', _⟩
      · rw [uniq hS hu hu']; exact h2
      · rw [hwn] at hwn'; cases hwn'
    · simp only [hwn]
      refine next undef fun a' w' hS hsh h' => ?_
      rcases look a' w' hS hsh h' with ⟨hwn', _⟩ | ⟨_, h2⟩
      · rw [hwn] at hwn'; cases hwn'
      · exact h2
theorem wpAnyE_lexA {n g : Nat} {Lq : Act → World → Prop} (hsel : Region.noSelect ops = true) (hsz : n = ops.size)
 (hg : ∀ i o, ops[i]? = some o → eff i = true → o.guard = none) (hne : ∀ i o, ops[i]? = some o → i < n → eff i = false → NoEnter P o) (hch : Chain md ops eff) :
 ∀ (l : List Oper) (k : Nat) (listed : Array Bool) (a : Act) (w : World), S w → (∀ j, j < l.length → l[j]? = ops[k + j]?) → k + l.length = n → HeadInv md ops n listed → EffInv ops eff k listed →
 Region.lexHead md ops g l.length k listed = true → wpLexE P ops S eff Lq l k a w →
 wpAnyE P md ops S eff n (fun listed' a' w' => Region.seqB md ops g n listed' = true ∧ Lq a' w') l.length listed a w
 | [], k, listed, a, w, _, _, hk, _, _, hB, h => by
   have : k = n := by simpa using hk
   subst this
   exact ⟨by simpa [Region.lexHead] using hB, h⟩
 | o :: l, k, listed, a, w, hw, hl, hk, inv, einv, hB, h => by
   have h0 : ops[k]? = some o := by simpa using (hl 0 (by simp)).symm
   simp only [List.length_cons, Region.lexHead, Bool.and_eq_true] at hB
   obtain ⟨⟨hr, hf⟩, hB'⟩ := hB
   have hkn : k < n := by simp only [List.length_cons] at hk; omega
   have hr' : k ∈ Region.ready md ops listed := by simpa using hr
   have hl' : ∀ j, j < l.length → l[j]? = ops[k + 1 + j]? := fun j hj => by have := hl (j + 1) (by simp; omega); simpa [Nat.add_assoc, Nat.add_comm 1 j] using this
   have hk' : k + 1 + l.length = n := by simp only [List.length_cons] at hk; omega
   have einv' : EffInv ops eff (k + 1) (listed.setIfInBounds k true) := by
    refine ⟨fun j hj he => ?_, fun j hj hs he => ?_⟩
    · by_cases e : j = k
      · subst e; exact getD_set_self
      · rw [getD_set_ne true (Ne.symm e)]; exact einv.lo j (by omega) he
    · rw [getD_set_ne true (by omega)]; exact einv.hi j (by omega) hs he
   cases hek : eff k with
   | true =>
    simp only [wpLexE, hek, if_true] at h
    refine wpAnyE_effA h0 hek (Region.noSelect_spec hsel) hsz hkn hch hne (fun listed' a' w' hL => seqB_ready hL.1) l.length listed a w hw inv einv (Region.free_spec h0 hf) hr' ?_
    exact wpn_mono (fun a' w' hh => ⟨hh.1, wpAnyE_lexA hsel hsz hg hne hch l (k + 1) _ a' w' hh.1 hl' hk' (inv.set hr' hkn) einv' hB' hh.2⟩) h
   | false =>
    simp only [wpLexE, hek, Bool.false_eq_true, if_false] at h
    have hst : qOp P ops S k (fun a' => wpLexE P ops S eff Lq l (k + 1) a' w) a := by unfold qOp; simp only [h0]; exact h
    obtain ⟨v, hy, hK⟩ := yieldsIn_of_qOp h0 hst
    exact wpAnyE_pureA h0 hek (Region.noSelect_spec hsel) hsz hkn (fun listed' a' w' hL => seqB_ready hL.1) l.length listed a w hw inv (Region.free_spec h0 hf) hr' hy
     (wpAnyE_lexA hsel hsz hg hne hch l (k + 1) _ _ w hw hl' hk' (inv.set hr' hkn) einv' hB' hK)
theorem wp_region_effA {id : Nat} {Q : Exit → Act → World → Prop} {a : Act} {w : World} {l : List Oper} (S : World → Prop) (cuts : List Nat) (hm : P.follows .mixedOrders = true)
 (hB : (Region.noSelect l.toArray && Region.lexHead .any l.toArray 0 l.length 0 (Array.replicate l.toArray.size false)) = true)
 (hE : effB .any l.toArray l.length (fun i => cuts.contains i) = true) (hS : S w.drew)
 (h : wpLexE P l.toArray S (fun i => cuts.contains i) (fun a' w' => Q .normal a' w') l 0 a w.drew) : (Code.region id l.toArray true).wp P Q a w := by
 obtain ⟨hg, hne, hch⟩ := effB_spec (P := P) hE
 simp only [Bool.and_eq_true] at hB
 obtain ⟨hsel, hlex⟩ := hB
 have inv0 : HeadInv .any l.toArray l.length (Array.replicate l.toArray.size false) :=
  ⟨by simp, fun j oj _ hl => (by rw [getD_replicate_false] at hl; cases hl), fun t h1 h2 => by simp at h2; omega⟩
 have einv0 : EffInv l.toArray (fun i => cuts.contains i) 0 (Array.replicate l.toArray.size false) := ⟨fun j hj => by omega, fun j _ hj _ => getD_in (by simpa using hj) (getD_replicate_false _ _)⟩
 have H := wpAnyE_lexA (md := .any) (g := 0) hsel (by simp) hg hne hch l 0 _ a w.drew hS (fun j hj => by simp) (by simp) inv0 einv0 hlex h
 refine wp_region_any hm ?_
 have := wpAny_of_eff (Q' := Q) (g := 0) hg hne (fun listed a' w' _ hL => by
  exact ⟨by simpa [Region.seqB] using hL.1, hL.2⟩) _ _ _ _ hS H
 simpa using this
end
end Go.Proofs.YtbhkbcpljakmjaaGreat

namespace Go.Proofs.YtbhkbcpljakmjaaGreat
set_option linter.unusedVariables false
set_option linter.unusedSimpArgs false
open Go.RowKit
def rdC (aw : List Bool) (ds : List DevD) (c : Col) : List UInt8 := if hereD aw ds c.1.toNat then match ds[c.1.toNat]? with
 | some d => d.rdS c.2.1
 | none => [] else []
def rawL (gs : List (Int × Int)) (secs pg pa size : Int) (aw : List Bool) (ds : List DevD) : List (List UInt8) := (ofList gs secs pg pa size).map (rdC aw ds)
def rawG (aw : List Bool) (ds : List DevD) (L : List Col) (i : Nat) : List UInt8 := match L[i]? with
 | some c => rdC aw ds c
 | none => []
theorem rawL_range (aw : List Bool) (ds : List DevD) (L : List Col) : L.map (rdC aw ds) = (List.range L.length).map (rawG aw ds L) := by
 apply List.ext_getElem?
 intro i
 rw [List.getElem?_map, List.getElem?_map]
 unfold rawG
 by_cases hi : i < L.length
 · rw [List.getElem?_eq_getElem hi, List.getElem?_range hi]
   simp [List.getElem?_eq_getElem hi]
 · rw [List.getElem?_eq_none (by omega), List.getElem?_eq_none (by simp; omega)]
   rfl
set_option maxRecDepth 20000 in
set_option maxHeartbeats 1000000 in
theorem vraw_any {w : World} {S : Nat → Nat → Prop} {U : Nat → Prop} {y : VX} {aw : List Bool} {ds : List DevD} (h : VdIn w S U y aw ds) (few : y.bd.length ≤ 1000) (pg pa size : Int) :
 Calls Tryz.prog 20 #[y.val, .agg #[.int .i64 pg, .int .i64 pa], .int .i64 size] w fun e w' => ∃ v, e = .returned (.tuple #[v, .int .i64 (ofErr y.gs y.secs pg pa size)]) ∧
  SlAt w' v (rawL y.gs y.secs pg pa size aw ds).length (strC (rawL y.gs y.secs pg pa size aw ds)) ∧ Below w.heap.size w w' ∧ ∀ b o n c, v = .slice (some ⟨b, o, none⟩) n c → w.heap.size ≤ b := by
 obtain ⟨w1, hw1⟩ : ∃ z, (w.alloc (.cells y.cells 37)).alloc (.cells #[.int .i64 pg, .int .i64 pa] 26) = z := ⟨_, rfl⟩
 have B1 : Blk w1 w.heap.size 37 y.cells := by rw [← hw1]; exact (Blk.new _ _ _).alloc _
 have B2 : Blk w1 (w.heap.size + 1) 26 #[.int .i64 pg, .int .i64 pa] := by rw [← hw1]; exact Blk.new2 _ _ _ _
 have D1 : Below w.heap.size w w1 := by rw [← hw1]; exact keep_alloc (keep_alloc (Below.refl _ _) _) _
 have HR := Lib.hid (vright_any (h.below D1) few)
 have HO := Lib.hid (fun W (hW : Below w1.heap.size w1 W) => of_any (some ⟨y.gb, 0, none⟩) y.m y.cc y.gs y.secs pg pa size W ((h.below D1).geo.below hW (Nat.le_refl _)))
 have HH := Lib.hid h
 have HB1 := Lib.hid B1
 have HB2 := Lib.hid B2
 have HD1 := Lib.hid D1
 have HW1 := Lib.hid hw1
 clear h B1 B2 D1 hw1
 go_enter Tryz.func20, Tryz.ntmps20
 go_wp2_with fail
 rw [HW1.out]
 clear HW1
 refine HR.out.mono ?_
 rintro e w2 ⟨rfl, hb2⟩
 have HB12 := Lib.hid hb2
 have g0 := keep_cell hb2 (HB1.out.at_ (i := 0) (v := .slice (some ⟨y.gb, 0, none⟩) y.m y.cc) rfl) HB1.out.lt
 have g1 := keep_cell hb2 (HB1.out.at_ (i := 1) (v := .int .i64 y.secs) rfl) HB1.out.lt
 have p0 := keep_cell hb2 (HB2.out.at_ (i := 0) (v := .int .i64 pg) rfl) HB2.out.lt
 have p1 := keep_cell hb2 (HB2.out.at_ (i := 1) (v := .int .i64 pa) rfl) HB2.out.lt
 clear hb2
 obtain ⟨oe, hoe0⟩ : ∃ oe, ofErr y.gs y.secs pg pa size = oe := ⟨_, rfl⟩
 rw [hoe0] at HO
 have HOE := Lib.hid hoe0
 clear hoe0
 go_wp2_with fail
 refine (HO.out _ HB12.out).mono ?_
 rintro e w4 ⟨cv, rfl, hcol, hb4⟩
 have HB14 := Lib.hid (keep_below hb4 HB12.out)
 have HD4 := Lib.hid (keep_below HB14.out HD1.out)
 obtain ⟨L, hL⟩ : ∃ L, L = ofList y.gs y.secs pg pa size := ⟨_, rfl⟩
 rw [← hL] at hcol
 have hRL : rawL y.gs y.secs pg pa size aw ds = (List.range L.length).map (rawG aw ds L) := by unfold rawL; rw [← hL]; exact rawL_range aw ds L
 have HRL := Lib.hid hRL
 have hL64 : L.length ≤ 64 := by rw [hL]; exact ofList_le _ _ _ _ _
 by_cases hoe : oe = 0
 · subst hoe
   obtain ⟨Ac, ccap, rfl⟩ := (slAt_own hcol).form
   have H := Lib.hid (slAt_own hcol)
   have hz2 : cMay y.gs y.secs pg pa size = true := by
    have h1 := HOE.out
    unfold ofErr at h1
    split at h1
    · assumption
    · cases h1
   have HCF : Hid (∀ (k : Nat) (x : Col), L[k]? = some x → ∃ i : Nat, x.1 = i ∧ i < y.bd.length) := Lib.hid (fun k x hx => by
    have hLc : ofList y.gs y.secs pg pa size = colsOf y.gs y.secs pg pa size := by unfold ofList; rw [if_pos hz2]
    rw [hL, hLc] at hx
    obtain ⟨c1, c2, c3, c4⟩ := (apart_pure hz2 hz2).1 k x hx
    have hnd : gDevs y.gs y.secs = y.bd.length := by unfold gDevs; rw [if_pos HH.out.right]; exact HH.out.nd
    exact ⟨x.1.toNat, by omega, by omega⟩)
   obtain ⟨wM, rM, hbM, hsM, hdM⟩ := mk_strs w4 L.length (by omega)
   obtain ⟨f, hf⟩ : ∃ f, f = rawG aw ds L := ⟨_, rfl⟩
   have hz : List.replicate L.length [] = stepL L.length f (fun _ => []) 0 := by rw [stepL_zero]; simp [List.map_const']
   rw [hz] at hbM
   have HBM := Lib.hid hbM
   have HDM := Lib.hid hdM
   have HFF := Lib.hid hf
   have HSM := Lib.hid hsM
   have HV4 := Lib.hid (HH.out.below HD4.out)
   have HXB : Hid (Blk w4 w.heap.size 37 y.cells) := Lib.hid (HB1.out.below HB14.out HB1.out.lt)
   clear hcol hb4 hL hRL hbM hdM hz hsM hf hz2 g0 g1 p0 p1 HO HR
   go_wp2_with fail
   clear rM
   go_loopw [11, 12, 32] (fun _ _ t wr => ∃ k : Nat, k ≤ L.length ∧ t = .int .i64 k ∧ Blk wr w4.heap.size 9 (strC (stepL L.length f (fun _ => []) k)).toArray ∧ Below w4.heap.size w4 wr) (fun _ _ t _ => L.length - (RowKit.intOf t).toNat)
   case atStart => exact ⟨0, Nat.zero_le _, rfl, HBM.out, HDM.out⟩
   case round =>
    clear HBM HDM
    obtain ⟨k, hk, rfl, hblk, hb⟩ := hrel
    have HB := Lib.hid hb
    have HK := Lib.hid hblk
    clear hb hblk
    by_cases hlt : k < L.length
    · obtain ⟨b, o, rfl, hbl, hcell⟩ := H.out.cells (by omega)
      obtain ⟨x, hx⟩ : ∃ x, L[k]? = some x := ⟨_, List.getElem?_eq_getElem hlt⟩
      obtain ⟨q0, q1, q2, q3⟩ := colsCells_at hx
      have hcl : ∀ j u, (colsCells L)[j]? = some u → wr.cell? ⟨b, o + j, none⟩ = some u := fun j u hu => (World.cell?_of_block (HB.out.block b hbl)).trans (hcell j u hu)
      have f0 : wr.cell? ⟨b, o + k * 4, none⟩ = some (.int .i64 x.1) := hcl _ _ q0
      have f1 : wr.cell? ⟨b, o + k * 4 + 1, none⟩ = some (.int .i64 x.2.1) := hcl _ _ q1
      have f2 : wr.cell? ⟨b, o + k * 4 + 2, none⟩ = some (.bool x.2.2.1) := hcl _ _ q2
      have f3 : wr.cell? ⟨b, o + k * 4 + 3, none⟩ = some (.int .i64 x.2.2.2) := hcl _ _ q3
      have hdc : decide (k < L.length) = true := decide_eq_true hlt
      have HLT := Lib.hid hlt
      have HX := Lib.hid hx
      have hi44 : (Tryz.prog.info? 71).map (·.size) = some (#[.int .i64 x.1, .int .i64 x.2.1, .bool x.2.2.1, .int .i64 x.2.2.2] : Array Value).size := by kernel_rfl
      have h1c : (#[.int .i64 x.1, .int .i64 x.2.1, .bool x.2.2.1, .int .i64 x.2.2.2] : Array Value).all (·.oneCell') = true := by kernel_rfl
      have Z2 : Blk (wr.alloc (.cells colZ 71)) wr.heap.size 71 colZ := Blk.new _ _ _
      have hth : (wr.alloc (.cells colZ 71)).there wr.heap.size 0 (#[.int .i64 x.1, .int .i64 x.2.1, .bool x.2.2.1, .int .i64 x.2.2.2] : Array Value).size := Z2.there (Nat.le_refl _)
      obtain ⟨w2, hw2⟩ : ∃ y, (wr.alloc (.cells colZ 71)).setCells wr.heap.size 0 (#[.int .i64 x.1, .int .i64 x.2.1, .bool x.2.2.1, .int .i64 x.2.2.2] : Array Value).toList = y := ⟨_, rfl⟩
      have X2 : Blk w2 wr.heap.size 71 #[.int .i64 x.1, .int .i64 x.2.1, .bool x.2.2.1, .int .i64 x.2.2.2] := by rw [← hw2]; exact Z2.putAll _ rfl
      have hb2 : Below wr.heap.size wr w2 := by rw [← hw2]; exact below_sets _ _ (keep_alloc (Below.refl _ _) _) (Nat.le_refl _)
      have hs2 : w2.heap.size = wr.heap.size + 1 := by rw [← hw2, sets_size', World.size_alloc]
      have HW2 := Lib.hid hw2
      have HX2 := Lib.hid X2
      have HK2 := Lib.hid hb2
      have HS2 := Lib.hid hs2
      have e2 : w2.cell? ⟨wr.heap.size, 2, none⟩ = some (.bool x.2.2.1) := X2.at_ rfl
      have e3 : w2.cell? ⟨wr.heap.size, 3, none⟩ = some (.int .i64 x.2.2.2) := X2.at_ rfl
      clear q0 q1 q2 q3 hcl hcell hx hbl hw2 X2 hb2 hs2 Z2
      have HK2B := Lib.hid (HK.out.below HK2.out HK.out.lt)
      have HD2B := Lib.hid (HB.out.trans (HK2.out.mono HB.out.size))
      obtain ⟨i, hxi, hib⟩ := HCF.out k x HX.out
      have hV2 := HV4.out.below HD2B.out
      obtain ⟨dk, hdk⟩ : ∃ dk, ds[i]? = some dk := ⟨_, List.getElem?_eq_getElem (by rw [hV2.n2]; exact hib)⟩
      obtain ⟨_, bk, a, hbk, ha, hdev, hrow, _⟩ := hV2.parts hdk
      have hag : aw.getD i false = a := by rw [List.getD_eq_getElem?_getD, ha]; rfl
      have hhd : hereD aw ds i = (!a && !dk.lost) := by unfold hereD; rw [hag, hdk]
      have hfk : f k = if (!a && !dk.lost) then dk.rdS x.2.1 else [] := by
       rw [HFF.out]
       unfold rawG
       rw [HX.out]
       show rdC aw ds x = _
       unfold rdC
       rw [hxi, Int.toNat_natCast, hhd, hdk]
      have hhere := here_any hV2 ha hdk
      obtain ⟨hh, hhq⟩ : ∃ hh, (!a && !dk.lost) = hh := ⟨_, rfl⟩
      rw [hhq] at hhere hfk
      have HHR := Lib.hid hhere
      have HF := Lib.hid hfk
      have HV2 := Lib.hid hV2
      have HDK := Lib.hid hdk
      have HIB := Lib.hid hib
      have HXI := Lib.hid hxi
      have hxb : Blk w2 w.heap.size 37 y.cells := HXB.out.below HD2B.out HXB.out.lt
      have HXB2 := Lib.hid hxb
      have g0 := hxb.at_ (i := 0) (v := .slice (some ⟨y.gb, 0, none⟩) y.m y.cc) rfl
      have g1 := hxb.at_ (i := 1) (v := .int .i64 y.secs) rfl
      have g2 := hxb.at_ (i := 2) (v := .slice (some ⟨y.lb, 0, none⟩) y.bd.length y.lc) rfl
      have g3 := hxb.at_ (i := 3) (v := .slice (some ⟨y.ab, 0, none⟩) y.bd.length y.bd.length) rfl
      have e0 : w2.cell? ⟨wr.heap.size, 0, none⟩ = some (.int .i64 i) := HX2.out.at_ (by rw [← hxi]; rfl)
      clear hV2 hdk hbk ha hdev hrow hag hhd hfk hhere hhq hxb hib hxi e2 e3
      repeat' (first
       | (((with_reducible refine wpList_store_mid ?a1 71 (.tmp 12) (.tmp 36) ?a2 wr.heap.size 0 #[.int .i64 x.1, .int .i64 x.2.1, .bool x.2.2.1, .int .i64 x.2.2.2] ?a3 ?a4 hth hi44 h1c ?_); (case a1 => rfl); (case a2 => rfl); (case a3 => rfl); (case a4 => rfl); simp only [Act.put, List.setIfInBounds_toArray, List.set_cons_zero, List.set_cons_succ]; rw [HW2.out]))
       | go_values
       | go_skip
       | go_guarded
       | ((fail_if_success (with_reducible refine drawn_mark ?_))
          first
           | go_step
           | go_upon
           | go_back
           | (simp only [Int.not_lt, Int.not_le] at *; go_simp)
           | (go_values <;> (try go_simp))
           | (go_ite <;> go_prune <;> (try go_simp))
           | (split <;> (first | (rename_i hx; exact (hx _ rfl).elim) | go_prune))))
      clear hi44 h1c hth
      refine HHR.out.mono ?_
      rintro e w3 ⟨rfl, hb3⟩
      have HK3 := Lib.hid (HK2B.out.below hb3 HK2B.out.lt)
      have HD3 := Lib.hid (HD2B.out.trans (hb3.mono HD2B.out.size))
      have HXB3 := Lib.hid (HXB2.out.below hb3 HXB2.out.lt)
      have HX3 := Lib.hid (HX2.out.below hb3 HX2.out.lt)
      have HV3 := Lib.hid (HV2.out.below hb3)
      clear hb3 g0 g1 g2 g3 e0 HHR f0 f1 f2 f3
      cases hh with
      | false =>
       have HT : Hid (stepL L.length f (fun _ => []) (k + 1) = stepL L.length f (fun _ => []) k) := Lib.hid (stepL_same (by rw [HF.out]; rfl))
       go_wp2_with fail
       go_roundw
       case rel => exact ⟨k + 1, HLT.out, by go_num, by rw [HT.out]; exact HK3.out, HD3.out⟩
       case measure => have := HLT.out; simp [RowKit.intOf]; omega
      | true =>
       have hV3 : VdIn w3.drew S U y aw ds := HV3.out.same (w' := w3.drew) (Nat.le_refl _) (fun _ _ => rfl) (fun _ _ _ => rfl)
       obtain ⟨_, bk, a, hbk, ha, hdev, hrow, _⟩ := hV3.parts HDK.out
       have hrd := read_any hdev x.2.1 (by have := HH.out.sz dk (List.mem_of_getElem? HDK.out); have := (gRight_parts HH.out.right).2.2.2.1; omega)
       have hfk : dk.rdS x.2.1 = f k := by rw [HF.out]; rfl
       obtain ⟨me, hme⟩ : ∃ me, dk.mayE x.2.1 = me := ⟨_, rfl⟩
       rw [hfk, hme] at hrd
       have HRD := Lib.hid hrd
       obtain ⟨S0, hS0⟩ : ∃ S0 : World → Prop, S0 = fun W => ∀ g : Nat, g ≠ w4.heap.size → W.heap[g]? = w3.heap[g]? := ⟨_, rfl⟩
       have n1 : w.heap.size ≠ w4.heap.size := Nat.ne_of_lt HXB.out.lt
       have n2 : wr.heap.size ≠ w4.heap.size := Nat.ne_of_gt HK.out.lt
       have n3 : y.lb ≠ w4.heap.size := Nat.ne_of_lt (HV4.out.us _ HV4.out.ul)
       have f0 : ∀ W, S0 W → W.cell? ⟨w.heap.size, 0, none⟩ = some (.slice (some ⟨y.gb, 0, none⟩) y.m y.cc) := fun W h => by rw [hS0] at h; exact (cell_same' (h _ n1)).trans (HXB3.out.at_ rfl)
       have f1 : ∀ W, S0 W → W.cell? ⟨w.heap.size, 1, none⟩ = some (.int .i64 y.secs) := fun W h => by rw [hS0] at h; exact (cell_same' (h _ n1)).trans (HXB3.out.at_ rfl)
       have f2 : ∀ W, S0 W → W.cell? ⟨w.heap.size, 2, none⟩ = some (.slice (some ⟨y.lb, 0, none⟩) y.bd.length y.lc) := fun W h => by rw [hS0] at h; exact (cell_same' (h _ n1)).trans (HXB3.out.at_ rfl)
       have f3 : ∀ W, S0 W → W.cell? ⟨w.heap.size, 3, none⟩ = some (.slice (some ⟨y.ab, 0, none⟩) y.bd.length y.bd.length) := fun W h => by rw [hS0] at h; exact (cell_same' (h _ n1)).trans (HXB3.out.at_ rfl)
       have f4 : ∀ W, S0 W → W.cell? ⟨wr.heap.size, 0, none⟩ = some (.int .i64 i) := fun W h => by rw [hS0] at h; exact (cell_same' (h _ n2)).trans (HX3.out.at_ (by rw [← HXI.out]; rfl))
       have f5 : ∀ W, S0 W → W.cell? ⟨wr.heap.size, 1, none⟩ = some (.int .i64 x.2.1) := fun W h => by rw [hS0] at h; exact (cell_same' (h _ n2)).trans (HX3.out.at_ rfl)
       have f6 : ∀ W, S0 W → W.cell? ⟨y.lb, i, none⟩ = some (.pointer (some ⟨bk, 0, none⟩)) := fun W h => by rw [hS0] at h; exact (cell_same' (h _ n3)).trans hrow
       have hSw : S0 w3.drew := by rw [hS0]; exact fun _ _ => rfl
       have hSf : S0 (w3.drew.setCell ⟨w4.heap.size, k, none⟩ (str (f k))) := by rw [hS0]; exact fun g hg => Below.heap_setCell w3.drew _ _ g hg
       have c8 : w3.drew.cell? ⟨w4.heap.size, k, none⟩ = some (str []) := HK3.out.at_ (by
        have := stepL_at (N := L.length) (g := f) (h := fun _ => []) (k := k) HLT.out
        rw [if_neg (Nat.lt_irrefl k)] at this
        rw [List.getElem?_toArray]
        exact strC_at this)
       have z8 : w3.drew.frozen? ⟨w4.heap.size, k, none⟩ = false := HK3.out.fr k
       have hkl := HLT.out
       have hib := HIB.out
       clear hV3 hbk ha hdev hrow hrd hfk hme hS0
       go_wp2_with fail
       refine wp_region_effA S0 [10, 15] (by kernel_rfl) (by kernel_rfl) (by kernel_rfl) hSw ?_
       refine wpLexE_take 10 (by kernel_rfl) (by kernel_rfl) ?_
       simp only [List.take_succ_cons, List.take_zero, List.drop_succ_cons, List.drop_zero]
       repeat (first | go_big_quiet_skip | (go_big_quiet_want; go_big_quiet_op; first | go_big_quiet_on | (apply Exists.intro; refine ⟨fun W hW => ?_, ?_⟩; (focus ((first | exact rfl | exact ⟨rfl, rfl⟩ | (simp only [f0 W hW, f1 W hW, f2 W hW, f3 W hW, f4 W hW, f5 W hW, f6 W hW, Result.andThen_ok]; first | done | exact ⟨trivial, rfl⟩ | exact rfl | exact ⟨rfl, rfl⟩) | (skip)); done)); go_big_quiet_on)))
       refine wpQuiet_nil ?_
       show wpLexE _ _ _ _ _ _ _ _ _
       refine wpLexE_eff (by kernel_rfl) rfl ?_
       go_wp2_with fail
       refine HRD.out.mono ?_
       rintro e w5 ⟨rfl, rfl⟩
       go_wp2_with fail
       refine ⟨rfl, hSw, ?_⟩
       refine wpLexE_take 4 (by kernel_rfl) (by kernel_rfl) ?_
       simp only [List.take_succ_cons, List.take_zero, List.drop_succ_cons, List.drop_zero]
       repeat (first | go_big_quiet_skip | (go_big_quiet_want; go_big_quiet_op; first | go_big_quiet_on | (apply Exists.intro; refine ⟨fun W hW => ?_, ?_⟩; (focus ((first | exact rfl | exact ⟨rfl, rfl⟩ | (simp only [f0 W hW, f1 W hW, f2 W hW, f3 W hW, f4 W hW, f5 W hW, f6 W hW, Result.andThen_ok]; first | done | exact ⟨trivial, rfl⟩ | exact rfl | exact ⟨rfl, rfl⟩) | (skip)); done)); go_big_quiet_on)))
       refine wpQuiet_nil ?_
       show wpLexE _ _ _ _ _ _ _ _ _
       refine wpLexE_eff (by kernel_rfl) rfl ?_
       clear f0 f1 f2 f3 f4 f5 f6
       go_wp2_with fail
       refine ⟨rfl, hSf, ?_⟩
       unfold wpLexE
       go_wp2_with fail
       go_roundw
       case rel => exact ⟨k + 1, HLT.out, by go_num, by have h := HK3.out.put k (str (f k)); rw [strC_put, stepL_set] at h; exact h, below_set HD3.out.drew _ _ _ (Nat.le_refl _)⟩
       case measure => have := HLT.out; simp [RowKit.intOf]; omega
    · obtain rfl : k = L.length := by omega
      have hdc : decide ((L.length : Int) < L.length) = false := decide_eq_false (by omega)
      go_wp2_with fail
      go_ret2
      have hk := HK.out
      rw [stepL_all, HFF.out, ← HRL.out] at hk
      rw [HOE.out, show (rawL y.gs y.secs pg pa size aw ds).length = L.length by rw [HRL.out, List.length_map, List.length_range]]
      exact ⟨_, rfl, ⟨some ⟨w4.heap.size, 0, none⟩, L.length, rfl, Nat.le_refl _, fun _ => ⟨w4.heap.size, 0, rfl, hk.lt, fun j u hu => by
       rw [Nat.zero_add]
       exact hk.at_ (by rw [List.getElem?_toArray]; exact hu)⟩⟩, keep_below HB.out HD4.out, fun b o n c e => (by cases e; exact HD4.out.size)⟩
 · have hne : (oe != 0) = true := bne_iff_ne.2 hoe
   have hLe : L = [] := by
    rw [hL]
    have := HOE.out
    unfold ofErr at this
    unfold ofList
    split at this
    · exact absurd this.symm hoe
    · rename_i h; rw [if_neg h]
   subst hLe
   clear hcol hb4 hL hRL hoe g0 g1 p0 p1 HO HR
   go_wp2_with fail
   go_ret2
   rw [HOE.out, HRL.out]
   exact ⟨_, rfl, ⟨none, 0, rfl, Nat.le_refl _, fun h => absurd h (Nat.lt_irrefl 0)⟩, HD4.out, fun b o n c e => (by cases e)⟩
end Go.Proofs.YtbhkbcpljakmjaaGreat

namespace Go.Proofs.YtbhkbcpljakmjaaGreat
set_option linter.unusedVariables false
set_option linter.unusedSimpArgs false
open Go.RowKit
theorem hereD_at {aw : List Bool} {ds : List DevD} {i : Nat} {a : Bool} {d : DevD} (ha : aw[i]? = some a) (hd : ds[i]? = some d) : hereD aw ds i = (!a && !d.lost) := by
 unfold hereD
 rw [List.getD_eq_getElem?_getD, ha, hd]
 rfl
theorem hereV_any {w : World} {S : Nat → Nat → Prop} {U : Nat → Prop} {x : VX} {aw : List Bool} {ds : List DevD} (h : VdIn w S U x aw ds) {i : Nat} (hi : i < x.bd.length) :
 Calls Tryz.prog 44 #[x.val, .int .i64 i] w fun e w' => e = .returned (.bool (hereD aw ds i)) ∧ Below w.heap.size w w' := by
 obtain ⟨d, hd⟩ : ∃ d, ds[i]? = some d := ⟨_, List.getElem?_eq_getElem (by rw [h.n2]; exact hi)⟩
 obtain ⟨a, ha⟩ : ∃ a, aw[i]? = some a := ⟨_, List.getElem?_eq_getElem (by rw [h.n1]; exact hi)⟩
 rw [hereD_at ha hd]
 exact here_any h ha hd
section
variable {aw : List Bool} {ds : List DevD}
end
end Go.Proofs.YtbhkbcpljakmjaaGreat
