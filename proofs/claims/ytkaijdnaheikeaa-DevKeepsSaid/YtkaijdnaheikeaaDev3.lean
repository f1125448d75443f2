/-
  Contracts of package dev: Write, Fuse, Lose, Fresh.
-/
import Derived.Test.YtkaijdnaheikeaaDev2
import Derived.Test.YtkaijdnaheikeaaEff
namespace Go.Proofs.Ytkaijdnaheikeaa
set_option linter.unusedVariables false
set_option linter.unusedSimpArgs false
open Go.RowKit

section
variable {w w' : World} {S T : Nat → Prop} {bd mb mcap cb : Nat} {d : DevD} {g : Int → Option Value}
theorem DevIn.row_block (h : DevIn w S bd d mb mcap cb g) {k : Int} {v : Value} (e : g k = some v) : ∃ (n : Nat) (b cap : Nat) (cur : Array Value), k = n ∧ v = .slice (some ⟨b, 0, none⟩) (d.cac n).length cap ∧ w.heap[b]? = some (.cells cur 9 (0, 0)) := by
  have hk := h.keys k (by rw [e]; rfl)
  obtain ⟨n, rfl⟩ := Int.eq_ofNat_of_zero_le hk.1
  have hr := h.rows n v e
  have hp := List.length_pos_iff.2 hr.1
  rcases hr.2.2 with ⟨_, h0⟩ | ⟨b, cap, cur, rfl, _, hb, _⟩
  · omega
  · exact ⟨n, b, cap, cur, rfl, rfl, hb⟩
theorem DevIn.med_block (h : DevIn w S bd d mb mcap cb g) : ∃ cur, w.heap[mb]? = some (.cells cur 9 (0, 0)) := by
  rcases h.med.2 with ⟨hn, _⟩ | ⟨g', cap, cur, hv, _, h2, _⟩
  · cases hn
  · cases hv; exact ⟨_, h2⟩
theorem DevIn.cache_block (h : DevIn w S bd d mb mcap cb g) : ∃ es c, w.heap[cb]? = some (.map es c) := by
  obtain ⟨D, ⟨es, c, h2, _⟩, _⟩ := h.map
  exact ⟨es, c, h2⟩
theorem DevIn.nes (h : DevIn w S bd d mb mcap cb g) : mb ≠ bd ∧ cb ≠ bd ∧ cb ≠ mb := by
  have h1 := h.box
  unfold Blk at h1
  obtain ⟨cur, h2⟩ := h.med_block
  obtain ⟨es, c, h3⟩ := h.cache_block
  refine ⟨?_, ?_, ?_⟩
  · rintro rfl
    rw [h1] at h2
    injection h2 with h2; injection h2 with _ h2; exact absurd h2 (by decide)
  · rintro rfl; rw [h1] at h3; cases h3
  · rintro rfl; rw [h2] at h3; cases h3
theorem DevIn.row_nes (h : DevIn w S bd d mb mcap cb g) {k : Int} {v : Value} (e : g k = some v) : ∀ b, v.ownBlock = some b → b ≠ bd ∧ b ≠ cb ∧ b ≠ mb := by
  intro b hb
  obtain ⟨n, b', cap, cur, rfl, rfl, h2⟩ := h.row_block e
  cases hb
  have h1 := h.box
  unfold Blk at h1
  obtain ⟨es, c, h3⟩ := h.cache_block
  refine ⟨?_, ?_, ?_⟩
  · rintro rfl
    rw [h1] at h2
    injection h2 with h2; injection h2 with _ h2; exact absurd h2 (by decide)
  · rintro rfl; rw [h2] at h3; cases h3
  · rintro rfl; exact (h.apart _ _ e).1 rfl
theorem DevIn.putRow {w3 w4 : World} (h : DevIn w S bd d mb mcap cb g) {k N : Nat} (hk : k < d.med.length) {s : List UInt8} {v v' : Value} (hv : (g k).getD (.slice none 0 0) = v)
    (h1 : Only (fun i => v.ownBlock = some i) w w3) (hr : w3.ownsRow 0 9 1 v' ((d.cac k).length + 1) ((d.cac k).map str ++ [str s])) (hloc : v'.ownBlock = v.ownBlock ∨ ∃ b, v'.ownBlock = some b ∧ w.heap.size ≤ b)
    (hm : MapAt Try.prog 3 w4 cb N (fun j => if j = (k : Int) then some v' else g j)) (hg : w3.grownBy w4 (some cb)) (hsz : w4.heap.size = w3.heap.size) :
    DevIn w4 (more S w w4) bd (d.put k s) mb mcap cb (fun j => if j = (k : Int) then some v' else g j) := by
  obtain ⟨n1, n2, n3⟩ := h.nes
  obtain ⟨bv, hbv, hb3⟩ : ∃ bv, v'.ownBlock = some bv ∧ ∃ cur, w3.heap[bv]? = some (.cells cur 9 (0, 0)) := by
    rcases hr.2 with ⟨_, h0⟩ | ⟨b, cap, cur, rfl, _, hb, _⟩
    · omega
    · exact ⟨b, rfl, cur, hb⟩
  have hvb : ∀ b, v.ownBlock = some b → S b ∧ b ≠ bd ∧ b ≠ cb ∧ b ≠ mb := by
    intro b hb
    cases hgk : g k with
    | none => rw [hgk] at hv; subst hv; cases hb
    | some u =>
      rw [hgk] at hv
      obtain rfl : u = v := hv
      exact ⟨(h.apart _ _ hgk).2 b hb, h.row_nes hgk b hb⟩
  have keep : ∀ i, i < w.heap.size → v.ownBlock ≠ some i → i ≠ cb → w4.heap[i]? = w.heap[i]? := fun i hi h2 h3 =>
    (hg.block i (Nat.lt_of_lt_of_le hi h1.size) (by simpa using h3)).trans (h1.block i hi h2)
  have hcb3 : ∃ es c, w3.heap[cb]? = some (.map es c) := by
    obtain ⟨es, c, e⟩ := h.cache_block
    exact ⟨es, c, (h1.block cb (h.lt cb h.sc) (fun hh => (hvb cb hh).2.2.1 rfl)).trans e⟩
  have hbvcb : bv ≠ cb := by
    rintro rfl
    obtain ⟨cur, e⟩ := hb3
    obtain ⟨es, c, e'⟩ := hcb3
    rw [e] at e'; cases e'
  have hbvlt : bv < w3.heap.size := by obtain ⟨cur, e⟩ := hb3; exact (Array.getElem?_eq_some_iff.1 e).1
  have hbvn : bv ≠ mb ∧ (more S w w4) bv ∧ ∀ (j : Int) u, g j = some u → u.ownBlock = some bv → j = k := by
    rcases hloc with e | ⟨b, e, hb⟩
    · rw [hbv] at e
      have := hvb bv e.symm
      refine ⟨this.2.2.2, .inl this.1, fun j u hj hu => ?_⟩
      cases hgk : g k with
      | none => rw [hgk] at hv; subst hv; cases e
      | some x =>
        rw [hgk] at hv
        obtain rfl : x = v := hv
        exact h.apart2 j k u x hj hgk (hu.trans e)
    · rw [hbv] at e; cases e
      refine ⟨fun e => by have := h.lt mb h.sm; omega, .inr ⟨hb, by omega⟩, fun j u hj hu => ?_⟩
      have := h.lt _ ((h.apart j u hj).2 _ hu)
      omega
  have hrow : ∀ (j : Int) u, j ≠ k → g j = some u → ∀ b, u.ownBlock = some b → w4.heap[b]? = w.heap[b]? := by
    intro j u hj hu b hb
    refine keep b (h.lt b ((h.apart j u hu).2 b hb)) (fun e => ?_) (h.row_nes hu b hb).2.1
    cases hgk : g k with
    | none => rw [hgk] at hv; subst hv; cases e
    | some x =>
      rw [hgk] at hv
      obtain rfl : x = v := hv
      exact hj (h.apart2 j k u x hu hgk (hb.trans e.symm))
  have hkeys : ∀ j : Int, ((fun j => if j = (k : Int) then some v' else g j) j).isSome = true → 0 ≤ j ∧ j < d.med.length := by
    intro j hj
    by_cases e : j = k
    · subst e; omega
    · simp only [if_neg e] at hj; exact h.keys j hj
  have hsz4 : w.heap.size ≤ w4.heap.size := by rw [hsz]; exact h1.size
  refine ⟨(keep bd (h.lt bd h.sd) (fun e => (hvb bd e).2.1 rfl) (Ne.symm n2)).trans h.box, ownsRow_same h.med (fun b e => by cases e; exact keep mb (h.lt mb h.sm) (fun e => (hvb mb e).2.2.2 rfl) (Ne.symm n3)),
    hm.few Try.underlying3 hkeys, hkeys, fun j hj => ?_, fun j u hj => ?_, fun j u hj => ?_, fun i j u x hi hj he => ?_, .inl h.sd, .inl h.sm, .inl h.sc, fun i hi => ?_⟩
  · by_cases e : (j : Int) = k
    · simp only [if_pos e] at hj; cases hj
    · simp only [if_neg e] at hj
      have e' : j ≠ k := by omega
      show (if j = k then _ else d.cac j) = []
      rw [if_neg e']; exact h.none_ j hj
  · by_cases e : (j : Int) = k
    · obtain rfl : j = k := by omega
      simp only [if_true] at hj
      cases hj
      have hc : (d.put j s).cac j = d.cac j ++ [s] := by simp [DevD.put]
      rw [hc]
      refine ⟨by simp, ?_⟩
      rw [List.length_append, List.map_append]
      exact ownsRow_same hr (fun b hb => hg.block b (by rw [hbv] at hb; cases hb; exact hbvlt) (by rw [hbv] at hb; cases hb; simpa using hbvcb))
    · simp only [if_neg e] at hj
      have e' : j ≠ k := by omega
      have hc : (d.put k s).cac j = d.cac j := by simp [DevD.put, e']
      rw [hc]
      exact ⟨(h.rows j u hj).1, ownsRow_same (h.rows j u hj).2 (hrow _ _ e hj)⟩
  · by_cases e : j = (k : Int)
    · subst e
      simp only [if_true] at hj
      cases hj
      exact ⟨by rw [hbv]; intro hh; cases hh; exact hbvn.1 rfl, fun b hb => by rw [hbv] at hb; cases hb; exact hbvn.2.1⟩
    · simp only [if_neg e] at hj
      exact ⟨(h.apart j u hj).1, fun b hb => .inl ((h.apart j u hj).2 b hb)⟩
  · by_cases e1 : i = (k : Int)
    · by_cases e2 : j = (k : Int)
      · rw [e1, e2]
      · simp only [if_pos e1] at hi
        simp only [if_neg e2] at hj
        cases hi
        rw [e1]
        exact (hbvn.2.2 j x hj (by rw [← he]; exact hbv)).symm
    · by_cases e2 : j = (k : Int)
      · simp only [if_neg e1] at hi
        simp only [if_pos e2] at hj
        cases hj
        rw [e2]
        exact hbvn.2.2 i u hi (by rw [he]; exact hbv)
      · simp only [if_neg e1] at hi
        simp only [if_neg e2] at hj
        exact h.apart2 i j u x hi hj he
  · rcases hi with hi | hi
    · exact Nat.lt_of_lt_of_le (h.lt i hi) hsz4
    · exact hi.2
end

theorem more_trans {S : Nat → Prop} {a b c : World} (hab : a.heap.size ≤ b.heap.size) (hbc : b.heap.size ≤ c.heap.size) : ∀ i, more S b c i → more S a c i := fun i hi => by
  rcases hi with hi | hi
  · exact .inl hi
  · exact .inr ⟨by omega, hi.2⟩

set_option maxRecDepth 100000 in
/-- What is stored when all may be. -/
theorem store_any {w : World} {S : Nat → Prop} {bd : Nat} {d : DevD} (h : DevAt w S bd d) (k : Nat) (s : List UInt8) (hk : k < d.med.length) (h1 : d.wrE k s = 0) (ok : d.Ok) (hv : (d.cac k).length ≤ 1000000) :
    Calls Try.prog 12 #[.pointer (some ⟨bd, 0, none⟩), .int .i64 k, str s] w fun e w' => e = .returned (.int .i64 0) ∧ DevAt w' (more S w w') bd (d.burn.put k s) ∧ Only S w w' := by
  obtain ⟨i0, hi, hz0, hz1, hz2⟩ := info_parts Try.infoS
  have hm0 : d.mayE k = 0 ∧ s.length = 64 ∧ d.fuse ≠ 0 := by
    unfold DevD.wrE at h1
    by_cases e : d.mayE k = 0
    · rw [if_neg (by simpa using e)] at h1
      split at h1
      · omega
      · split at h1
        · omega
        · exact ⟨e, by omega, by omega⟩
    · rw [if_pos e] at h1; exact absurd h1 e
  have few := ok.few
  have HM := Lib.hid (may_any h k ok.few)
  rw [hm0.1] at HM
  have HB := Lib.hid (burnt_no h hm0.2.2 ok.f1 ok.f2)
  have hq : ((s.length : Int) != 64) = false := by rw [bne_eq_false_iff_eq]; omega
  have hlts := h.lts
  have HLT := Lib.hid hlts
  clear hm0 h1 h hlts
  go_enter Try.func12, Try.ntmps12
  go_wp2_with fail
  refine HM.out.mono ?_
  rintro e w1 ⟨rfl, rfl⟩
  go_wp2_with fail
  refine HB.out.mono ?_
  rintro e w1 ⟨rfl, h2, hO, hz⟩
  have HO := Lib.hid hO
  have HZ := Lib.hid hz
  obtain ⟨mb, mcap, cb, g, h2⟩ := h2
  obtain ⟨c0, c1, c2, c3⟩ := h2.cells
  obtain ⟨v, hvv⟩ : ∃ v, v = (g k).getD (.slice none 0 0) := ⟨_, rfl⟩
  have hown : w1.ownsRow 0 9 1 v (d.cac k).length ((d.cac k).map str) := by
    cases hg : g k with
    | none => rw [hg] at hvv; subst hvv; have := h2.none_ k hg; simp only [DevD.burn] at this; rw [this]; exact World.ownsRow_nil _ _ _ _
    | some u => rw [hg] at hvv; subst hvv; exact (h2.rows k _ hg).2
  obtain ⟨S1, hS1⟩ : ∃ S1 : World → Prop, S1 = fun W => W.heap[bd]? = w1.heap[bd]? ∧ W.heap[cb]? = w1.heap[cb]? := ⟨_, rfl⟩
  have f1 : ∀ W, S1 W → W.cell? ⟨bd, 1, none⟩ = some (.map (some cb)) := fun W hW => by rw [hS1] at hW; exact (show Blk W bd _ _ from hW.1.trans h2.box).at_ rfl
  have f2 : ∀ W, S1 W → (Instr.lookup 51 (.map (some cb)) (.int .i64 k) false).run Try.prog W = .ok v W := fun W hW => by
    rw [hS1] at hW
    have := (h2.map.same hW.2).look (k := k) (t := 51) Try.underlying3 Try.underlying51 (zero_strs W) (wfz_in (by omega) (by omega))
    rw [← hvv] at this
    exact this
  have hSw : S1 w1.drew := by rw [hS1]; exact ⟨rfl, rfl⟩
  have hS2 : ∀ W, W.heap[bd]? = w1.heap[bd]? → W.heap[cb]? = w1.heap[cb]? → S1 W := fun W a b => by rw [hS1]; exact ⟨a, b⟩
  have hvb : v.ownBlock ≠ some bd ∧ v.ownBlock ≠ some cb := by
    cases hg : g k with
    | none => rw [hg] at hvv; subst hvv; exact ⟨by simp [Value.ownBlock], by simp [Value.ownBlock]⟩
    | some u => rw [hg] at hvv; subst hvv; exact ⟨fun h => (h2.row_nes hg _ h).1 rfl, fun h => (h2.row_nes hg _ h).2.1 rfl⟩
  have hlt1 : bd < w1.heap.size ∧ cb < w1.heap.size := ⟨h2.lt _ h2.sd, h2.lt _ h2.sc⟩
  have HV := Lib.hid hvv
  have H2 := Lib.hid h2
  have HF := Lib.hid hS1
  have HG := Lib.hid hS2
  have HVB := Lib.hid hvb
  have HLT1 := Lib.hid hlt1
  have HFEW := Lib.hid few
  have HVL := Lib.hid hv
  have HK := Lib.hid hk
  have HOW := Lib.hid hown
  clear hvv h2 hO hz hq hS1 hS2 hvb hlt1 few hv hk c0 c1 c2 c3 hown
  repeat' (first
    | go_values
    | go_skip
    | go_guarded
    | ((fail_if_success (with_reducible refine drawn_mark ?_))
       first
         | go_step
         | go_upon
         | go_back
         | (simp only [Int.not_lt, Int.not_le] at *; go_simp)
         | (go_values <;> (try go_simp))
         | (go_ite <;> go_prune <;> (try go_simp))
         | (split <;> (first | (rename_i hx; exact (hx _ rfl).elim) | go_prune))))
  refine wp_region_eff S1 [12, 13] 14 (by kernel_rfl) (by kernel_rfl) (by kernel_rfl) hSw ?_
  simp only [List.take_succ_cons, List.take_zero, List.drop_succ_cons, List.drop_zero]
  refine wpLexE_take 12 (by kernel_rfl) (by kernel_rfl) ?_
  simp only [List.take_succ_cons, List.take_zero, List.drop_succ_cons, List.drop_zero]
  repeat (first
    | go_big_quiet_skip
    | (go_big_quiet_want
       go_big_quiet_op
       first
         | go_big_quiet_on
         | (apply Exists.intro
            refine ⟨fun W hW => ?_, ?_⟩
            · first
                | exact rfl
                | exact ⟨rfl, rfl⟩
                | (have e0 := f1 W hW; have e1 := f2 W hW; simp only [e0, e1, Result.andThen_ok]; done)
                | (have e0 := f1 W hW; have e1 := f2 W hW; simp only [e0, e1, Result.andThen_ok]; first | exact ⟨trivial, rfl⟩ | exact rfl | exact ⟨rfl, rfl⟩)
                | (skip)
            go_big_quiet_on)))
  refine wpQuiet_nil ?_
  show wpLexE _ _ _ _ _ _ _ _ _
  refine wpLexE_eff (by kernel_rfl) rfl ?_
  go_wp2_with fail
  have hb1 : ∀ (X : Obj) i, i < w1.heap.size → (w1.drew.alloc X).heap[i]? = w1.heap[i]? := fun X i hi => Below.heap_alloc w1.drew X i hi
  refine ⟨rfl, HG.out _ (hb1 _ _ HLT1.out.1) (hb1 _ _ HLT1.out.2), ?_⟩
  refine wpLexE_eff (by kernel_rfl) rfl ?_
  have hown2 : w1.drew.ownsRow 0 9 1 v (d.cac k).length ((d.cac k).map str) := HOW.out
  have hvl := HVL.out
  refine wpList_append_own_at _ rfl (.tmp 31) (.tmp 33) 49 rfl 0 9 i0 (.string ⟨#[]⟩) 1 16 Try.underlying49 hi hz0 hz1 hz2 rfl (by decide) v _ _ rfl (hown2.alloc _) ⟨w1.drew.heap.size, 0, none⟩ 1 1 [str s] rfl rfl ?c1 ?c2 (by unfold maxLen; omega) (by omega) (Nat.zero_le _) ?_
  case c1 => exact one_new _ _ _
  case c2 => intro u hu; simp at hu; subst hu; rfl
  intro v' w3 hown' hgrow hnil hloc
  have hs1 : w1.heap.size ≤ (w1.drew.alloc (.cells #[str s] 9)).heap.size := ((((Only.refl (fun _ => False) w1).drew).alloc (.cells #[str s] 9)).size)
  have hb3 : ∀ i, i < w1.heap.size → v.ownBlock ≠ some i → w3.heap[i]? = w1.heap[i]? := fun i hi hn => (hgrow.block i (Nat.lt_of_lt_of_le hi hs1) (fun e => hn e.symm)).trans (hb1 _ i hi)
  refine ⟨rfl, HG.out _ (hb3 _ HLT1.out.1 HVB.out.1) (hb3 _ HLT1.out.2 HVB.out.2), ?_⟩
  show wpList _ _ _ _ _ _
  have hmap : MapAt Try.prog 3 w3 cb d.burn.med.length g := H2.out.map.same (hb3 _ HLT1.out.2 HVB.out.2)
  have few := HFEW.out
  have hk := HK.out
  refine wpList_map_store rfl _ _ _ 51 rfl 3 49 Try.underlying3 Try.underlying51 cb _ g rfl hmap (by show d.med.length < maxLen; unfold maxLen; omega) k v' rfl rfl (wfz_in (by omega) (by omega)) ?_
  intro w4 hm4 hg4 hsz4
  have ho3 : Only (fun i => v.ownBlock = some i) w1 w3 := by
    refine (((Only.refl (fun i => v.ownBlock = some i) w1).drew).alloc (.cells #[str s] 9)).trans (Only.of_grown' (S := fun i => v.ownBlock = some i) hgrow (fun b e => e)) (fun i hi => .inl hi)
  have hr3 : w3.ownsRow 0 9 1 v' ((d.burn.cac k).length + 1) ((d.burn.cac k).map str ++ [str s]) := hown'
  have hin := H2.out.putRow (w3 := w3) (w4 := w4) (k := k) (s := s) (v := v) (v' := v') hk (HV.out).symm ho3 hr3 (by
    rcases hloc with e | e
    · exact .inl e
    · exact .inr ⟨_, e, hs1⟩) hm4 hg4 hsz4
  have hz1 := HZ.out
  have h34 : w1.heap.size ≤ w4.heap.size := by rw [hsz4]; exact ho3.size
  have hdev : DevAt w4 (more S w w4) bd (d.burn.put k s) := by
    refine ⟨mb, mcap, cb, _, hin.mono (fun i hi => ?_) (fun i hi => ?_)⟩
    · rcases hi with hi | hi
      · exact .inl hi
      · exact .inr ⟨by omega, hi.2⟩
    · rcases hi with hi | hi
      · exact Nat.lt_of_lt_of_le (HLT.out i hi) (by omega)
      · exact hi.2
  have honly : Only S w w4 := by
    have hSv : ∀ i, v.ownBlock = some i → S i := by
      intro i e
      cases hg : g k with
      | none => have := HV.out; rw [hg] at this; subst this; simp [Value.ownBlock] at e
      | some u => have := HV.out; rw [hg] at this; subst this; exact (H2.out.apart _ _ hg).2 i e
    exact HO.out.trans ((ho3.mono (T := S) (fun i _ e => hSv i e)).trans (Only.of_grown (S := S) hg4 H2.out.sc) (fun i hi => .inl hi)) (fun i hi => .inl hi)
  have HD := Lib.hid hdev
  have HOO := Lib.hid honly
  clear hdev honly hin hr3 ho3 hm4 hg4 hmap hown' hgrow hnil hloc hown2
  go_wp2_with fail
  go_ret
  exact ⟨rfl, HD.out, HOO.out⟩
end Go.Proofs.Ytkaijdnaheikeaa
