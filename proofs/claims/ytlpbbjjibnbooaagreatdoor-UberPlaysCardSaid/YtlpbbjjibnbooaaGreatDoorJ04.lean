/-
  Contracts of package dev: Write, Fuse, Lose, Fresh.
  Contracts of package dev: Write, Fuse, Lose, Fresh, Flush.
  Contracts of package dev: Fresh, Flush, Spoil.
  Contracts of package dev: Flush.
  What every device keeps, from act to act. No program stands here.
  Slices, and what their cells hold; predicates over them. No program stands here but slices.ContainsFunc over texts.
  Rows of bytes: made, and turned into texts.
  Parities, as plain words. No program stands here.
  Contracts of package par.
  Contracts of package code: sectors.
-/
import Derived.Test.YtlpbbjjibnbooaaGreatDoorJ02
import Derived.Test.YtlpbbjjibnbooaaGreatDoorJ03
import Derived.StillTailTactics
import Derived.Test.YtlpbbjjibnbooaaGreatDoorRows
import Derived.Test.YtlpbbjjibnbooaaGreatDoorJ01
import Derived.Maps.AppendAt
namespace Go.Proofs.YtlpbbjjibnbooaaGreatDoor
set_option linter.unusedVariables false
set_option linter.unusedSimpArgs false
open Go.RowKit

section
variable {w w' : World} {S T : Nat → Prop} {bd mb mcap cb : Nat} {d : DevD} {g : Int → Option Value}
theorem DevIn.row_block (h : DevIn w S bd d mb mcap cb g) {k : Int} {v : Value} (e : g k = some v) : ∃ (n : Nat) (b cap : Nat) (cur : Array Value), k = n ∧ v = .slice (some ⟨b, 0, none⟩) (d.cac n).length cap ∧ w.heap[b]? = some (.cells cur 9 (0, 0)) := by
  have hk := h.keys k (by rw [e]; rfl)
  obtain ⟨n, rfl⟩ := Int.eq_ofNat_of_zero_le hk.1
  have hr := h.rows n v e
  have hp := List.length_pos_iff.2 hr.1
  rcases hr.2.2 with ⟨_, h0⟩ | ⟨b, cap, cur, rfl, _, hb, _⟩
  · omega
  · exact ⟨n, b, cap, cur, rfl, rfl, hb⟩
theorem DevIn.med_block (h : DevIn w S bd d mb mcap cb g) : ∃ cur, w.heap[mb]? = some (.cells cur 9 (0, 0)) := by
  rcases h.med.2 with ⟨hn, _⟩ | ⟨g', cap, cur, hv, _, h2, _⟩
  · cases hn
  · cases hv; exact ⟨_, h2⟩
theorem DevIn.cache_block (h : DevIn w S bd d mb mcap cb g) : ∃ es c, w.heap[cb]? = some (.map es c) := by
  obtain ⟨D, ⟨es, c, h2, _⟩, _⟩ := h.map
  exact ⟨es, c, h2⟩
theorem DevIn.nes (h : DevIn w S bd d mb mcap cb g) : mb ≠ bd ∧ cb ≠ bd ∧ cb ≠ mb := by
  have h1 := h.box
  unfold Blk at h1
  obtain ⟨cur, h2⟩ := h.med_block
  obtain ⟨es, c, h3⟩ := h.cache_block
  refine ⟨?_, ?_, ?_⟩
  · rintro rfl
    rw [h1] at h2
    injection h2 with h2; injection h2 with _ h2; exact absurd h2 (by decide)
  · rintro rfl; rw [h1] at h3; cases h3
  · rintro rfl; rw [h2] at h3; cases h3
theorem DevIn.row_nes (h : DevIn w S bd d mb mcap cb g) {k : Int} {v : Value} (e : g k = some v) : ∀ b, v.ownBlock = some b → b ≠ bd ∧ b ≠ cb ∧ b ≠ mb := by
  intro b hb
  obtain ⟨n, b', cap, cur, rfl, rfl, h2⟩ := h.row_block e
  cases hb
  have h1 := h.box
  unfold Blk at h1
  obtain ⟨es, c, h3⟩ := h.cache_block
  refine ⟨?_, ?_, ?_⟩
  · rintro rfl
    rw [h1] at h2
    injection h2 with h2; injection h2 with _ h2; exact absurd h2 (by decide)
  · rintro rfl; rw [h2] at h3; cases h3
  · rintro rfl; exact (h.apart _ _ e).1 rfl
theorem DevIn.putRow {w3 w4 : World} (h : DevIn w S bd d mb mcap cb g) {k N : Nat} (hk : k < d.med.length) {s : List UInt8} {v v' : Value} (hv : (g k).getD (.slice none 0 0) = v)
    (h1 : Only (fun i => v.ownBlock = some i) w w3) (hr : w3.ownsRow 0 9 1 v' ((d.cac k).length + 1) ((d.cac k).map str ++ [str s])) (hloc : v'.ownBlock = v.ownBlock ∨ ∃ b, v'.ownBlock = some b ∧ w.heap.size ≤ b)
    (hm : MapAt Tryz.prog 3 w4 cb N (fun j => if j = (k : Int) then some v' else g j)) (hg : w3.grownBy w4 (some cb)) (hsz : w4.heap.size = w3.heap.size) :
    DevIn w4 (more S w w4) bd (d.put k s) mb mcap cb (fun j => if j = (k : Int) then some v' else g j) := by
  obtain ⟨n1, n2, n3⟩ := h.nes
  obtain ⟨bv, hbv, hb3⟩ : ∃ bv, v'.ownBlock = some bv ∧ ∃ cur, w3.heap[bv]? = some (.cells cur 9 (0, 0)) := by
    rcases hr.2 with ⟨_, h0⟩ | ⟨b, cap, cur, rfl, _, hb, _⟩
    · omega
    · exact ⟨b, rfl, cur, hb⟩
  have hvb : ∀ b, v.ownBlock = some b → S b ∧ b ≠ bd ∧ b ≠ cb ∧ b ≠ mb := by
    intro b hb
    cases hgk : g k with
    | none => rw [hgk] at hv; subst hv; cases hb
    | some u =>
      rw [hgk] at hv
      obtain rfl : u = v := hv
      exact ⟨(h.apart _ _ hgk).2 b hb, h.row_nes hgk b hb⟩
  have keep : ∀ i, i < w.heap.size → v.ownBlock ≠ some i → i ≠ cb → w4.heap[i]? = w.heap[i]? := fun i hi h2 h3 =>
    (hg.block i (Nat.lt_of_lt_of_le hi h1.size) (by simpa using h3)).trans (h1.block i hi h2)
  have hcb3 : ∃ es c, w3.heap[cb]? = some (.map es c) := by
    obtain ⟨es, c, e⟩ := h.cache_block
    exact ⟨es, c, (h1.block cb (h.lt cb h.sc) (fun hh => (hvb cb hh).2.2.1 rfl)).trans e⟩
  have hbvcb : bv ≠ cb := by
    rintro rfl
    obtain ⟨cur, e⟩ := hb3
    obtain ⟨es, c, e'⟩ := hcb3
    rw [e] at e'; cases e'
  have hbvlt : bv < w3.heap.size := by obtain ⟨cur, e⟩ := hb3; exact (Array.getElem?_eq_some_iff.1 e).1
  have hbvn : bv ≠ mb ∧ (more S w w4) bv ∧ ∀ (j : Int) u, g j = some u → u.ownBlock = some bv → j = k := by
    rcases hloc with e | ⟨b, e, hb⟩
    · rw [hbv] at e
      have := hvb bv e.symm
      refine ⟨this.2.2.2, .inl this.1, fun j u hj hu => ?_⟩
      cases hgk : g k with
      | none => rw [hgk] at hv; subst hv; cases e
      | some x =>
        rw [hgk] at hv
        obtain rfl : x = v := hv
        exact h.apart2 j k u x hj hgk (hu.trans e)
    · rw [hbv] at e; cases e
      refine ⟨fun e => by have := h.lt mb h.sm; omega, .inr ⟨hb, by omega⟩, fun j u hj hu => ?_⟩
      have := h.lt _ ((h.apart j u hj).2 _ hu)
      omega
  have hrow : ∀ (j : Int) u, j ≠ k → g j = some u → ∀ b, u.ownBlock = some b → w4.heap[b]? = w.heap[b]? := by
    intro j u hj hu b hb
    refine keep b (h.lt b ((h.apart j u hu).2 b hb)) (fun e => ?_) (h.row_nes hu b hb).2.1
    cases hgk : g k with
    | none => rw [hgk] at hv; subst hv; cases e
    | some x =>
      rw [hgk] at hv
      obtain rfl : x = v := hv
      exact hj (h.apart2 j k u x hu hgk (hb.trans e.symm))
  have hkeys : ∀ j : Int, ((fun j => if j = (k : Int) then some v' else g j) j).isSome = true → 0 ≤ j ∧ j < d.med.length := by
    intro j hj
    by_cases e : j = k
    · subst e; omega
    · simp only [if_neg e] at hj; exact h.keys j hj
  have hsz4 : w.heap.size ≤ w4.heap.size := by rw [hsz]; exact h1.size
  refine ⟨(keep bd (h.lt bd h.sd) (fun e => (hvb bd e).2.1 rfl) (Ne.symm n2)).trans h.box, ownsRow_same h.med (fun b e => by cases e; exact keep mb (h.lt mb h.sm) (fun e => (hvb mb e).2.2.2 rfl) (Ne.symm n3)),
    hm.few Tryz.underlying3 hkeys, hkeys, fun j hj => ?_, fun j u hj => ?_, fun j u hj => ?_, fun i j u x hi hj he => ?_, .inl h.sd, .inl h.sm, .inl h.sc, fun i hi => ?_⟩
  · by_cases e : (j : Int) = k
    · simp only [if_pos e] at hj; cases hj
    · simp only [if_neg e] at hj
      have e' : j ≠ k := by omega
      show (if j = k then _ else d.cac j) = []
      rw [if_neg e']; exact h.none_ j hj
  · by_cases e : (j : Int) = k
    · obtain rfl : j = k := by omega
      simp only [if_true] at hj
      cases hj
      have hc : (d.put j s).cac j = d.cac j ++ [s] := by simp [DevD.put]
      rw [hc]
      refine ⟨by simp, ?_⟩
      rw [List.length_append, List.map_append]
      exact ownsRow_same hr (fun b hb => hg.block b (by rw [hbv] at hb; cases hb; exact hbvlt) (by rw [hbv] at hb; cases hb; simpa using hbvcb))
    · simp only [if_neg e] at hj
      have e' : j ≠ k := by omega
      have hc : (d.put k s).cac j = d.cac j := by simp [DevD.put, e']
      rw [hc]
      exact ⟨(h.rows j u hj).1, ownsRow_same (h.rows j u hj).2 (hrow _ _ e hj)⟩
  · by_cases e : j = (k : Int)
    · subst e
      simp only [if_true] at hj
      cases hj
      exact ⟨by rw [hbv]; intro hh; cases hh; exact hbvn.1 rfl, fun b hb => by rw [hbv] at hb; cases hb; exact hbvn.2.1⟩
    · simp only [if_neg e] at hj
      exact ⟨(h.apart j u hj).1, fun b hb => .inl ((h.apart j u hj).2 b hb)⟩
  · by_cases e1 : i = (k : Int)
    · by_cases e2 : j = (k : Int)
      · rw [e1, e2]
      · simp only [if_pos e1] at hi
        simp only [if_neg e2] at hj
        cases hi
        rw [e1]
        exact (hbvn.2.2 j x hj (by rw [← he]; exact hbv)).symm
    · by_cases e2 : j = (k : Int)
      · simp only [if_neg e1] at hi
        simp only [if_pos e2] at hj
        cases hj
        rw [e2]
        exact hbvn.2.2 i u hi (by rw [he]; exact hbv)
      · simp only [if_neg e1] at hi
        simp only [if_neg e2] at hj
        exact h.apart2 i j u x hi hj he
  · rcases hi with hi | hi
    · exact Nat.lt_of_lt_of_le (h.lt i hi) hsz4
    · exact hi.2
end

set_option maxRecDepth 100000 in
/-- What is stored when all may be. -/
theorem store_any {w : World} {S : Nat → Prop} {bd : Nat} {d : DevD} (h : DevAt w S bd d) (k : Nat) (s : List UInt8) (hk : k < d.med.length) (h1 : d.wrE k s = 0) (ok : d.Ok) (hv : (d.cac k).length ≤ 1000000) :
    Calls Tryz.prog 43 #[.pointer (some ⟨bd, 0, none⟩), .int .i64 k, str s] w fun e w' => e = .returned (.int .i64 0) ∧ DevAt w' (more S w w') bd (d.burn.put k s) ∧ Only S w w' := by
  obtain ⟨i0, hi, hz0, hz1, hz2⟩ := info_parts Tryz.infoS
  have hm0 : d.mayE k = 0 ∧ s.length = 64 ∧ d.fuse ≠ 0 := by
    unfold DevD.wrE at h1
    by_cases e : d.mayE k = 0
    · rw [if_neg (by simpa using e)] at h1
      split at h1
      · omega
      · split at h1
        · omega
        · exact ⟨e, by omega, by omega⟩
    · rw [if_pos e] at h1; exact absurd h1 e
  have few := ok.few
  have HM := Lib.hid (dmay_any h k ok.few)
  rw [hm0.1] at HM
  have HB := Lib.hid (burnt_no h hm0.2.2 ok.f1 ok.f2)
  have hq : ((s.length : Int) != 64) = false := by rw [bne_eq_false_iff_eq]; omega
  have hlts := h.lts
  have HLT := Lib.hid hlts
  clear hm0 h1 h hlts
  go_enter Tryz.func43, Tryz.ntmps43
  go_wp2_with fail
  refine HM.out.mono ?_
  rintro e w1 ⟨rfl, rfl⟩
  go_wp2_with fail
  refine HB.out.mono ?_
  rintro e w1 ⟨rfl, h2, hO, hz⟩
  have HO := Lib.hid hO
  have HZ := Lib.hid hz
  obtain ⟨mb, mcap, cb, g, h2⟩ := h2
  obtain ⟨c0, c1, c2, c3⟩ := h2.cells
  obtain ⟨v, hvv⟩ : ∃ v, v = (g k).getD (.slice none 0 0) := ⟨_, rfl⟩
  have hown : w1.ownsRow 0 9 1 v (d.cac k).length ((d.cac k).map str) := by
    cases hg : g k with
    | none => rw [hg] at hvv; subst hvv; have := h2.none_ k hg; simp only [DevD.burn] at this; rw [this]; exact World.ownsRow_nil _ _ _ _
    | some u => rw [hg] at hvv; subst hvv; exact (h2.rows k _ hg).2
  obtain ⟨S1, hS1⟩ : ∃ S1 : World → Prop, S1 = fun W => W.heap[bd]? = w1.heap[bd]? ∧ W.heap[cb]? = w1.heap[cb]? := ⟨_, rfl⟩
  have f1 : ∀ W, S1 W → W.cell? ⟨bd, 1, none⟩ = some (.map (some cb)) := fun W hW => by rw [hS1] at hW; exact (show Blk W bd _ _ from hW.1.trans h2.box).at_ rfl
  have f2 : ∀ W, S1 W → (Instr.lookup 96 (.map (some cb)) (.int .i64 k) false).run Tryz.prog W = .ok v W := fun W hW => by
    rw [hS1] at hW
    have := (h2.map.same hW.2).look (k := k) (t := 96) Tryz.underlying3 Tryz.underlying96 (zero_strs W) (wfz_in (by omega) (by omega))
    rw [← hvv] at this
    exact this
  have hSw : S1 w1.drew := by rw [hS1]; exact ⟨rfl, rfl⟩
  have hS2 : ∀ W, W.heap[bd]? = w1.heap[bd]? → W.heap[cb]? = w1.heap[cb]? → S1 W := fun W a b => by rw [hS1]; exact ⟨a, b⟩
  have hvb : v.ownBlock ≠ some bd ∧ v.ownBlock ≠ some cb := by
    cases hg : g k with
    | none => rw [hg] at hvv; subst hvv; exact ⟨by simp [Value.ownBlock], by simp [Value.ownBlock]⟩
    | some u => rw [hg] at hvv; subst hvv; exact ⟨fun h => (h2.row_nes hg _ h).1 rfl, fun h => (h2.row_nes hg _ h).2.1 rfl⟩
  have hlt1 : bd < w1.heap.size ∧ cb < w1.heap.size := ⟨h2.lt _ h2.sd, h2.lt _ h2.sc⟩
  have HV := Lib.hid hvv
  have H2 := Lib.hid h2
  have HF := Lib.hid hS1
  have HG := Lib.hid hS2
  have HVB := Lib.hid hvb
  have HLT1 := Lib.hid hlt1
  have HFEW := Lib.hid few
  have HVL := Lib.hid hv
  have HK := Lib.hid hk
  have HOW := Lib.hid hown
  clear hvv h2 hO hz hq hS1 hS2 hvb hlt1 few hv hk c0 c1 c2 c3 hown
  repeat' (first
    | go_values
    | go_skip
    | go_guarded
    | ((fail_if_success (with_reducible refine drawn_mark ?_))
       first
         | go_step
         | go_upon
         | go_back
         | (simp only [Int.not_lt, Int.not_le] at *; go_simp)
         | (go_values <;> (try go_simp))
         | (go_ite <;> go_prune <;> (try go_simp))
         | (split <;> (first | (rename_i hx; exact (hx _ rfl).elim) | go_prune))))
  refine wp_region_eff S1 [12, 13] 14 (by kernel_rfl) (by kernel_rfl) (by kernel_rfl) hSw ?_
  simp only [List.take_succ_cons, List.take_zero, List.drop_succ_cons, List.drop_zero]
  refine wpLexE_take 12 (by kernel_rfl) (by kernel_rfl) ?_
  simp only [List.take_succ_cons, List.take_zero, List.drop_succ_cons, List.drop_zero]
  repeat (first
    | go_big_quiet_skip
    | (go_big_quiet_want
       go_big_quiet_op
       first
         | go_big_quiet_on
         | (apply Exists.intro
            refine ⟨fun W hW => ?_, ?_⟩
            · first
                | exact rfl
                | exact ⟨rfl, rfl⟩
                | (have e0 := f1 W hW; have e1 := f2 W hW; simp only [e0, e1, Result.andThen_ok]; done)
                | (have e0 := f1 W hW; have e1 := f2 W hW; simp only [e0, e1, Result.andThen_ok]; first | exact ⟨trivial, rfl⟩ | exact rfl | exact ⟨rfl, rfl⟩)
                | (skip)
            go_big_quiet_on)))
  refine wpQuiet_nil ?_
  show wpLexE _ _ _ _ _ _ _ _ _
  refine wpLexE_eff (by kernel_rfl) rfl ?_
  go_wp2_with fail
  have hb1 : ∀ (X : Obj) i, i < w1.heap.size → (w1.drew.alloc X).heap[i]? = w1.heap[i]? := fun X i hi => Below.heap_alloc w1.drew X i hi
  refine ⟨rfl, HG.out _ (hb1 _ _ HLT1.out.1) (hb1 _ _ HLT1.out.2), ?_⟩
  refine wpLexE_eff (by kernel_rfl) rfl ?_
  have hown2 : w1.drew.ownsRow 0 9 1 v (d.cac k).length ((d.cac k).map str) := HOW.out
  have hvl := HVL.out
  refine wpList_append_own_at _ rfl (.tmp 31) (.tmp 33) 95 rfl 0 9 i0 (.string ⟨#[]⟩) 1 16 Tryz.underlying95 hi hz0 hz1 hz2 rfl (by decide) v _ _ rfl (hown2.alloc _) ⟨w1.drew.heap.size, 0, none⟩ 1 1 [str s] rfl rfl ?c1 ?c2 (by unfold maxLen; omega) (by omega) (Nat.zero_le _) ?_
  case c1 => exact one_new _ _ _
  case c2 => intro u hu; simp at hu; subst hu; rfl
  intro v' w3 hown' hgrow hnil hloc
  have hs1 : w1.heap.size ≤ (w1.drew.alloc (.cells #[str s] 9)).heap.size := ((((Only.refl (fun _ => False) w1).drew).alloc (.cells #[str s] 9)).size)
  have hb3 : ∀ i, i < w1.heap.size → v.ownBlock ≠ some i → w3.heap[i]? = w1.heap[i]? := fun i hi hn => (hgrow.block i (Nat.lt_of_lt_of_le hi hs1) (fun e => hn e.symm)).trans (hb1 _ i hi)
  refine ⟨rfl, HG.out _ (hb3 _ HLT1.out.1 HVB.out.1) (hb3 _ HLT1.out.2 HVB.out.2), ?_⟩
  show wpList _ _ _ _ _ _
  have hmap : MapAt Tryz.prog 3 w3 cb d.burn.med.length g := H2.out.map.same (hb3 _ HLT1.out.2 HVB.out.2)
  have few := HFEW.out
  have hk := HK.out
  refine wpList_map_store rfl _ _ _ 96 rfl 3 95 Tryz.underlying3 Tryz.underlying96 cb _ g rfl hmap (by show d.med.length < maxLen; unfold maxLen; omega) k v' rfl rfl (wfz_in (by omega) (by omega)) ?_
  intro w4 hm4 hg4 hsz4
  have ho3 : Only (fun i => v.ownBlock = some i) w1 w3 := by
    refine (((Only.refl (fun i => v.ownBlock = some i) w1).drew).alloc (.cells #[str s] 9)).trans (Only.of_grown' (S := fun i => v.ownBlock = some i) hgrow (fun b e => e)) (fun i hi => .inl hi)
  have hr3 : w3.ownsRow 0 9 1 v' ((d.burn.cac k).length + 1) ((d.burn.cac k).map str ++ [str s]) := hown'
  have hin := H2.out.putRow (w3 := w3) (w4 := w4) (k := k) (s := s) (v := v) (v' := v') hk (HV.out).symm ho3 hr3 (by
    rcases hloc with e | e
    · exact .inl e
    · exact .inr ⟨_, e, hs1⟩) hm4 hg4 hsz4
  have hz1 := HZ.out
  have h34 : w1.heap.size ≤ w4.heap.size := by rw [hsz4]; exact ho3.size
  have hdev : DevAt w4 (more S w w4) bd (d.burn.put k s) := by
    refine ⟨mb, mcap, cb, _, hin.mono (fun i hi => ?_) (fun i hi => ?_)⟩
    · rcases hi with hi | hi
      · exact .inl hi
      · exact .inr ⟨by omega, hi.2⟩
    · rcases hi with hi | hi
      · exact Nat.lt_of_lt_of_le (HLT.out i hi) (by omega)
      · exact hi.2
  have honly : Only S w w4 := by
    have hSv : ∀ i, v.ownBlock = some i → S i := by
      intro i e
      cases hg : g k with
      | none => have := HV.out; rw [hg] at this; subst this; simp [Value.ownBlock] at e
      | some u => have := HV.out; rw [hg] at this; subst this; exact (H2.out.apart _ _ hg).2 i e
    exact HO.out.trans ((ho3.mono (T := S) (fun i _ e => hSv i e)).trans (Only.of_grown (S := S) hg4 H2.out.sc) (fun i hi => .inl hi)) (fun i hi => .inl hi)
  have HD := Lib.hid hdev
  have HOO := Lib.hid honly
  clear hdev honly hin hr3 ho3 hm4 hg4 hmap hown' hgrow hnil hloc hown2
  go_wp2_with fail
  go_ret
  exact ⟨rfl, HD.out, HOO.out⟩
end Go.Proofs.YtlpbbjjibnbooaaGreatDoor

namespace Go.Proofs.YtlpbbjjibnbooaaGreatDoor
set_option linter.unusedVariables false
set_option linter.unusedSimpArgs false
open Go.RowKit

section
variable {w w' : World} {S T : Nat → Prop} {bd mb mcap cb : Nat} {d : DevD} {g : Int → Option Value}
/-- A cell of the box is set. -/
theorem DevIn.box_set (h : DevIn w S bd d mb mcap cb g) (o : Nat) (v : Value) {l : Bool} {f : Int}
    (he : (#[.slice (some ⟨mb, 0, none⟩) d.med.length mcap, .map (some cb), .bool d.lost, .int .i64 d.fuse] : Array Value).setIfInBounds o v = #[.slice (some ⟨mb, 0, none⟩) d.med.length mcap, .map (some cb), .bool l, .int .i64 f]) :
    DevIn (w.setCell ⟨bd, o, none⟩ v) S bd { d with lost := l, fuse := f } mb mcap cb g := by
  have hne : ∀ i, i ≠ bd → (w.setCell ⟨bd, o, none⟩ v).heap[i]? = w.heap[i]? := fun i hi => Below.heap_setCell w _ _ i hi
  obtain ⟨n1, n2, n3⟩ := h.nes
  refine ⟨by have := h.box.put o v; rw [he] at this; exact this, ownsRow_same h.med (fun b e => by cases e; exact hne mb n1), h.map.same (hne cb n2), h.keys, h.none_,
    fun k u e => ⟨(h.rows k u e).1, ownsRow_same (h.rows k u e).2 (fun b eb => hne b (h.row_nes e b eb).1)⟩, h.apart, h.apart2, h.sd, h.sm, h.sc, fun i hi => by simpa [World.setCell] using h.lt i hi⟩
/-- A sector of the medium is set. -/
theorem DevIn.med_set (h : DevIn w S bd d mb mcap cb g) {k : Nat} (hk : k < d.med.length) (s : List UInt8) : DevIn (w.setCell ⟨mb, k, none⟩ (str s)) S bd { d with med := d.med.set k s } mb mcap cb g := by
  have hne : ∀ i, i ≠ mb → (w.setCell ⟨mb, k, none⟩ (str s)).heap[i]? = w.heap[i]? := fun i hi => Below.heap_setCell w _ _ i hi
  obtain ⟨n1, n2, n3⟩ := h.nes
  have hl : (d.med.set k s).length = d.med.length := by simp
  refine ⟨?_, ?_, ?_, fun j hj => ?_, h.none_, fun j u e => ⟨(h.rows j u e).1, ownsRow_same (h.rows j u e).2 (fun b eb => hne b (h.row_nes e b eb).2.2)⟩, h.apart, h.apart2, h.sd, h.sm, h.sc, fun i hi => by simpa [World.setCell] using h.lt i hi⟩
  · show Blk _ bd _ #[.slice (some ⟨mb, 0, none⟩) (d.med.set k s).length mcap, .map (some cb), .bool d.lost, .int .i64 d.fuse]
    rw [hl]
    exact (hne bd (Ne.symm n1)).trans h.box
  · show World.ownsRow _ _ _ _ (.slice _ (d.med.set k s).length _) (d.med.set k s).length ((d.med.set k s).map str)
    rw [hl, List.map_set]
    exact ownsRow_set h.med hk (str s)
  · show MapAt _ _ _ _ (d.med.set k s).length _
    rw [hl]
    exact h.map.same (hne cb n3)
  · show _ ∧ j < ((d.med.set k s).length : Int)
    rw [hl]
    exact h.keys j hj
/-- The cache is emptied. -/
theorem DevIn.cleared (h : DevIn w S bd d mb mcap cb g) (hm : MapAt Tryz.prog 3 w' cb 0 (fun _ => none)) (hg : w.grownBy w' (some cb)) (hs : w'.heap.size = w.heap.size) : DevIn w' S bd { d with cac := fun _ => [] } mb mcap cb (fun _ => none) := by
  obtain ⟨n1, n2, n3⟩ := h.nes
  have hne : ∀ i, S i → i ≠ cb → w'.heap[i]? = w.heap[i]? := fun i hi hc => hg.block i (h.lt i hi) (by simpa using hc)
  exact ⟨(hne bd h.sd (Ne.symm n2)).trans h.box, ownsRow_same h.med (fun b e => by cases e; exact hne mb h.sm (Ne.symm n3)), hm.mono (Nat.zero_le _), fun k e => by simp at e, fun k _ => rfl, fun k v e => by simp at e,
    fun k v e => by simp at e, fun j k v u e => by simp at e, h.sd, h.sm, h.sc, fun i hi => by rw [hs]; exact h.lt i hi⟩
end

theorem wrE_zero {d : DevD} {a : Int} {s : List UInt8} (h : d.wrE a s = 0) : d.mayE a = 0 := by
  unfold DevD.wrE at h
  by_cases e : d.mayE a = 0
  · exact e
  · rw [if_pos e] at h; exact absurd h e
theorem write_any {w : World} {S : Nat → Prop} {bd : Nat} {d : DevD} (h : DevAt w S bd d) (a : Int) (s : List UInt8) (ok : d.Ok) (hv : ∀ k, (d.cac k).length ≤ 1000000) (hsl : s.length ≤ 9223372036854775807) :
    Calls Tryz.prog 43 #[.pointer (some ⟨bd, 0, none⟩), .int .i64 a, str s] w fun e w' => e = .returned (.int .i64 (d.wrE a s)) ∧ DevAt w' (more S w w') bd (d.wr a s) ∧ Only S w w' := by
  by_cases h0 : d.wrE a s = 0
  · have hm := DevD.mayE_ok (wrE_zero h0)
    obtain ⟨k, rfl⟩ := Int.eq_ofNat_of_zero_le hm.1
    refine (store_any h k s (by omega) h0 ok (hv k)).mono ?_
    rintro e w' ⟨rfl, h1, h2⟩
    refine ⟨by rw [h0], ?_, h2⟩
    have : d.wr k s = d.burn.put k s := by unfold DevD.wr; rw [if_pos h0]; rfl
    rw [this]; exact h1
  · have hwr : d.wr a s = d := by unfold DevD.wr; rw [if_neg h0]
    rw [hwr]
    have HE : Hid (d.wrE a s = if d.mayE a ≠ 0 then d.mayE a else if s.length ≠ 64 then 1 else if d.fuse = 0 then 6 else 0) := Lib.hid rfl
    have HD := Lib.hid (h.more (w0 := w) (Nat.le_refl _) h.lts)
    have HM := Lib.hid (dmay_any h a ok.few)
    by_cases h1 : d.mayE a = 0
    · rw [h1] at HM
      by_cases h2 : s.length = 64
      · have hf : d.fuse = 0 := by
          rw [HE.out, if_neg (by simp [h1]), if_neg (by simp [h2])] at h0
          by_cases e : d.fuse = 0
          · exact e
          · rw [if_neg e] at h0; exact absurd rfl h0
        have HB := Lib.hid (burnt_yes h hf)
        have he : d.wrE a s = 6 := by rw [HE.out, if_neg (by simp [h1]), if_neg (by simp [h2]), if_pos hf]
        rw [he]
        have hq : ((s.length : Int) != 64) = false := by rw [bne_eq_false_iff_eq]; omega
        clear h0 h1 h2 hf he h hwr
        go_enter Tryz.func43, Tryz.ntmps43
        go_wp2_with fail
        refine HM.out.mono ?_
        rintro e w1 ⟨rfl, rfl⟩
        go_wp2_with fail
        refine HB.out.mono ?_
        rintro e w1 ⟨rfl, rfl⟩
        go_wp2_with fail
        go_ret
        exact ⟨rfl, HD.out, Only.refl _ _⟩
      · have he : d.wrE a s = 1 := by rw [HE.out, if_neg (by simp [h1]), if_pos h2]
        rw [he]
        have hq : ((s.length : Int) != 64) = true := by rw [bne_iff_ne]; omega
        clear h0 h1 h2 he h hwr
        go_enter Tryz.func43, Tryz.ntmps43
        go_wp2_with fail
        refine HM.out.mono ?_
        rintro e w1 ⟨rfl, rfl⟩
        go_wp2_with fail
        go_ret
        exact ⟨rfl, HD.out, Only.refl _ _⟩
    · have he : d.wrE a s = d.mayE a := by rw [HE.out, if_pos h1]
      rw [he]
      have hne : (d.mayE a != 0) = true := by simpa using h1
      clear h0 h1 he h hwr HE
      generalize d.mayE a = E at *
      go_enter Tryz.func43, Tryz.ntmps43
      go_wp2_with fail
      refine HM.out.mono ?_
      rintro e w1 ⟨rfl, rfl⟩
      go_wp2_with fail
      go_ret
      exact ⟨rfl, HD.out, Only.refl _ _⟩
set_option maxRecDepth 20000 in
theorem lose_any {w : World} {S : Nat → Prop} {bd : Nat} {d : DevD} (h : DevAt w S bd d) : Calls Tryz.prog 40 #[.pointer (some ⟨bd, 0, none⟩)] w fun e w' =>
    e = .returned (.tuple #[]) ∧ DevAt w' S bd d.lose ∧ Only S w w' ∧ w'.heap.size = w.heap.size := by
  obtain ⟨mb, mcap, cb, g, h⟩ := h
  obtain ⟨c0, c1, c2, c3⟩ := h.cells
  have hz : w.frozen? ⟨bd, 2, none⟩ = false := h.box.fr 2
  have h2 := h.box_set 2 (.bool true) (l := true) (f := d.fuse) rfl
  have HO : Hid (Only S w (w.setCell ⟨bd, 2, none⟩ (.bool true))) := Lib.hid ((Only.refl S w).set (.inl h.sd) _)
  have hcl := (h2.map).clear (t := 96) (ty := 0) Tryz.underlying96
  obtain ⟨w3, hrun, hm3, hg3, hs3⟩ := hcl
  have H3 := Lib.hid (h2.cleared hm3 hg3 hs3)
  have HO3 : Hid (Only S (w.setCell ⟨bd, 2, none⟩ (.bool true)) w3) := Lib.hid (Only.of_grown hg3 h2.sc)
  have HS3 := Lib.hid hs3
  clear h2 hm3 hg3 hs3 h
  go_enter Tryz.func40, Tryz.ntmps40
  go_wp2_with fail
  go_end0
  exact ⟨rfl, ⟨mb, mcap, cb, _, H3.out⟩, HO.out.trans HO3.out (fun _ h => .inl h), by rw [HS3.out]; simp [World.setCell]⟩
end Go.Proofs.YtlpbbjjibnbooaaGreatDoor

namespace Go.Proofs.YtlpbbjjibnbooaaGreatDoor
set_option linter.unusedVariables false
set_option linter.unusedSimpArgs false
open Go.RowKit

set_option maxRecDepth 20000 in
theorem fresh_any {w : World} {S : Nat → Prop} {bd : Nat} {d : DevD} (h : DevAt w S bd d) (b : UInt8) (ok : d.Ok) : Calls Tryz.prog 83 #[.pointer (some ⟨bd, 0, none⟩), .int .u8 b.toNat] w fun e w' =>
    e = .returned (.tuple #[]) ∧ DevAt w' (more S w w') bd (DevD.blank d.med.length b) ∧ Only S w w' := by
  have hlts := h.lts
  obtain ⟨mb, mcap, cb, g, h⟩ := h
  obtain ⟨c0, c1, c2, c3⟩ := h.cells
  have HB := Lib.hid fun W => blank_any d.med.length b W ok.few
  have HP := Lib.hid ok.pos
  have H := Lib.hid h
  have HL := Lib.hid hlts
  have hmm := @run_makeMap Tryz.prog
  clear ok h hlts
  go_enter Tryz.func83, Tryz.ntmps83
  go_wp2_with fail
  refine (HB.out _).mono ?_
  rintro e w1 ⟨v, rfl, hr, hb1⟩
  have hpos := HP.out
  obtain ⟨mb1, cap, rfl, _, _⟩ := hr.form (by omega)
  have hmb := hr.lt mb1 rfl
  have hb2 : Below w.heap.size w (w1.alloc (.map #[] 0)) := keep_alloc hb1 _
  have h0 := H.out.same hb1.size (fun i hi => hb1.block i (HL.out i hi))
  have h1 := H.out.same hb2.size (fun i hi => hb2.block i (HL.out i hi))
  have f0 : (w1.alloc (.map #[] 0)).frozen? ⟨bd, 0, none⟩ = false := h1.box.fr 0
  have f1 : (w1.alloc (.map #[] 0)).frozen? ⟨bd, 1, none⟩ = false := h1.box.fr 1
  have f2 : (w1.alloc (.map #[] 0)).frozen? ⟨bd, 2, none⟩ = false := h1.box.fr 2
  have f3 : (w1.alloc (.map #[] 0)).frozen? ⟨bd, 3, none⟩ = false := h1.box.fr 3
  obtain ⟨d0, d1, d2, d3⟩ := h1.cells
  have HR := Lib.hid hr
  have H1 := Lib.hid h1
  have HMB := Lib.hid hmb
  have HB1 := Lib.hid hb1
  have HB2 := Lib.hid hb2
  clear hr h1 hmb hb1 hb2 h0 c0 c1 c2 c3 hpos
  go_wp2_with fail
  go_end0
  have hne : ∀ o v i W, i ≠ bd → (World.setCell W ⟨bd, o, none⟩ v).heap[i]? = W.heap[i]? := fun o v i W hi => Below.heap_setCell W _ _ i hi
  have hs2 := HB2.out.size
  have hsc : ∀ W p v, (World.setCell W p v).heap.size = W.heap.size := fun W p v => by simp [World.setCell]
  have hbd := HL.out bd H.out.sd
  have hsz : (w1.alloc (.map #[] 0)).heap.size = w1.heap.size + 1 := by simp
  have hx := HMB.out
  have hs1 := HB1.out.size
  refine ⟨rfl, devIn_new (mb := mb1) (mcap := cap) (cb := w1.heap.size) HP.out ((((H1.out.box.put 0 _).put 1 _).put 2 _).put 3 _) ?_ ?_ (.inl H.out.sd) (.inr ⟨hx.1, ?_⟩) (.inr ⟨hs1, ?_⟩) (fun i hi => ?_),
    (((((Only.of_below HB2.out).set (.inl H.out.sd) _).set (.inl H.out.sd) _).set (.inl H.out.sd) _).set (.inl H.out.sd) _)⟩
  · refine ownsRow_zero (ownsRow_same (HR.out.alloc (.map #[] 0)) (fun b' e => ?_))
    have e : b' = mb1 := by cases e; rfl
    have hb : b' ≠ bd := by omega
    rw [hne _ _ _ _ hb, hne _ _ _ _ hb, hne _ _ _ _ hb, hne _ _ _ _ hb]
  · have hb : w1.heap.size ≠ bd := by omega
    refine (mapAt_made w1 Tryz.prog 3).same ?_
    rw [hne _ _ _ _ hb, hne _ _ _ _ hb, hne _ _ _ _ hb, hne _ _ _ _ hb]
  · rw [hsc, hsc, hsc, hsc]; omega
  · rw [hsc, hsc, hsc, hsc]; omega
  · rcases hi with hi | hi
    · have := HL.out i hi; rw [hsc, hsc, hsc, hsc]; omega
    · exact hi.2
end Go.Proofs.YtlpbbjjibnbooaaGreatDoor

namespace Go.Proofs.YtlpbbjjibnbooaaGreatDoor
set_option linter.unusedVariables false
set_option linter.unusedSimpArgs false
open Go.RowKit

namespace DevD
/-- Flushed, but for what is left. -/
def part (d : DevD) (left : Nat → Bool) : DevD := { d with med := d.med.mapIdx fun k s => if left k then s else lastOr (d.cac k) s }
end DevD

end Go.Proofs.YtlpbbjjibnbooaaGreatDoor

namespace Go.Proofs.YtlpbbjjibnbooaaGreatDoor
set_option linter.unusedVariables false
set_option linter.unusedSimpArgs false

namespace DevD
theorem wrE_ok {d : DevD} {a : Int} {s : List UInt8} (h : d.wrE a s = 0) : d.mayE a = 0 ∧ s.length = 64 ∧ d.fuse ≠ 0 := by
  unfold wrE at h
  by_cases e : d.mayE a = 0
  · rw [if_neg (by simpa using e)] at h
    split at h
    · omega
    · split at h
      · omega
      · exact ⟨e, by omega, by omega⟩
  · rw [if_pos e] at h; exact absurd h e
theorem Ok.burn {d : DevD} (h : d.Ok) : d.burn.Ok := ⟨h.pos, h.few, h.med, h.cac, h.inn, by have := h.f1; show -1 ≤ max (d.fuse - 1) (-1); omega, by have := h.f2; show max (d.fuse - 1) (-1) ≤ _; omega⟩
theorem Ok.put {d : DevD} (h : d.Ok) {k : Nat} (hk : k < d.med.length) {s : List UInt8} (hs : s.length = 64) : (d.put k s).Ok := by
  refine ⟨h.pos, h.few, h.med, fun j t ht => ?_, fun j hj => ?_, h.f1, h.f2⟩
  · simp only [DevD.put] at ht
    split at ht
    · rcases List.mem_append.1 ht with ht | ht
      · exact h.cac j t ht
      · simp at ht; rw [ht]; exact hs
    · exact h.cac j t ht
  · have hj : d.med.length ≤ j := hj
    show (if j = k then _ else d.cac j) = []
    rw [if_neg (by omega)]; exact h.inn j hj
theorem Ok.wr {d : DevD} (h : d.Ok) (a : Int) (s : List UInt8) : (d.wr a s).Ok := by
  unfold DevD.wr
  split
  · rename_i h0
    have h1 := wrE_ok h0
    have h2 := mayE_ok h1.1
    exact h.burn.put (by show a.toNat < d.med.length; omega) h1.2.1
  · exact h
theorem lastOr_len {l : List (List UInt8)} {s : List UInt8} (h1 : ∀ x ∈ l, x.length = 64) (h2 : s.length = 64) : (lastOr l s).length = 64 := by
  unfold lastOr
  cases h : l.getLast? with
  | none => exact h2
  | some x => exact h1 x (List.mem_of_getLast? h)
theorem Ok.settled {d : DevD} (h : d.Ok) : d.settled.Ok := by
  refine ⟨by simpa [DevD.settled] using h.pos, by simpa [DevD.settled] using h.few, fun s hs => ?_, fun k s hs => by simp [DevD.settled] at hs, fun k _ => rfl, h.f1, h.f2⟩
  simp only [DevD.settled, List.mem_mapIdx] at hs
  obtain ⟨k, hk, rfl⟩ := hs
  exact lastOr_len (h.cac k) (h.med _ (List.getElem_mem hk))
theorem Ok.fl {d : DevD} (h : d.Ok) : d.fl.Ok := by
  unfold DevD.fl
  split
  · exact h.burn.settled
  · exact h
theorem pick_len {keep : List Int} {i : Nat} {l : List (List UInt8)} {s : List UInt8} (h1 : ∀ x ∈ l, x.length = 64) (h2 : s.length = 64) : (pick keep i l s).length = 64 := by
  unfold pick
  split
  · exact h2
  · rename_i x hx
    split
    · rename_i hv
      have hlt : vers x l.length - 1 < l.length := by
        have h3 : (x.tmod (l.length + 1) + l.length + 1).tmod (l.length + 1) < l.length + 1 := Int.tmod_lt_of_pos _ (by omega)
        unfold vers at *
        omega
      rw [List.getD_eq_getElem?_getD, List.getElem?_eq_getElem hlt]
      exact h1 _ (List.getElem_mem hlt)
    · exact h2
theorem Ok.crash {d : DevD} (h : d.Ok) (keep : List Int) : (d.crash keep).Ok := by
  unfold DevD.crash
  split
  · exact h
  · refine ⟨by simpa [crashMed] using h.pos, by simpa [crashMed] using h.few, fun s hs => ?_, fun k s hs => by simp at hs, fun k _ => rfl, by simp, by simp⟩
    simp only [crashMed, List.mem_mapIdx] at hs
    obtain ⟨k, hk, rfl⟩ := hs
    split
    · exact pick_len (h.cac k) (h.med _ (List.getElem_mem hk))
    · exact h.med _ (List.getElem_mem hk)
theorem Ok.lose {d : DevD} (h : d.Ok) : d.lose.Ok := ⟨h.pos, h.few, h.med, fun k s hs => by simp [DevD.lose] at hs, fun k _ => rfl, h.f1, h.f2⟩
theorem Ok.spoil {d : DevD} (h : d.Ok) (a place : Int) (b : UInt8) : (d.spoil a place b).Ok := by
  unfold DevD.spoil
  split
  · rename_i h0
    have hm : d.mayE a = 0 := by simp only [spoilOk, Bool.and_eq_true, decide_eq_true_eq] at h0; exact h0.1
    have h2 := mayE_ok hm
    have hk : a.toNat < d.med.length := by omega
    have hn : (d.now a.toNat).length = 64 := by
      refine lastOr_len (h.cac _) ?_
      unfold medAt
      rw [List.getD_eq_getElem?_getD, List.getElem?_eq_getElem hk]
      exact h.med _ (List.getElem_mem hk)
    have hf : (flip (d.now a.toNat) (spot place) b).length = 64 := by unfold flip; rw [List.length_set]; exact hn
    generalize flip (d.now a.toNat) (spot place) b = t at *
    unfold spoiled
    split
    · refine ⟨by simpa using h.pos, by simpa using h.few, fun s hs => ?_, h.cac, fun k hk => h.inn k (by simpa using hk), h.f1, h.f2⟩
      rcases List.mem_or_eq_of_mem_set hs with hs | rfl
      · exact h.med s hs
      · exact hf
    · rename_i hne
      refine ⟨h.pos, h.few, h.med, fun k s hs => ?_, fun k hk2 => ?_, h.f1, h.f2⟩
      · simp only at hs
        split at hs
        · rcases List.mem_or_eq_of_mem_set hs with hs | rfl
          · exact h.cac k s hs
          · exact hf
        · exact h.cac k s hs
      · have hk2 : d.med.length ≤ k := hk2
        show (if k = a.toNat then _ else d.cac k) = []
        rw [if_neg (by omega)]; exact h.inn k hk2
  · exact h
theorem put_len (d : DevD) (k : Nat) (s : List UInt8) (j : Nat) : ((d.put k s).cac j).length ≤ (d.cac j).length + 1 := by
  simp only [DevD.put]
  split <;> simp
theorem wr_len (d : DevD) (a : Int) (s : List UInt8) (j : Nat) : ((d.wr a s).cac j).length ≤ (d.cac j).length + 1 := by
  unfold wr
  split
  · exact put_len d.burn _ s j
  · omega
theorem wr_med (d : DevD) (a : Int) (s : List UInt8) : (d.wr a s).med.length = d.med.length := by
  unfold wr
  split <;> rfl
end DevD
end Go.Proofs.YtlpbbjjibnbooaaGreatDoor

namespace Go.Proofs.YtlpbbjjibnbooaaGreatDoor
set_option linter.unusedVariables false
set_option linter.unusedSimpArgs false
open Go.RowKit

theorem flat_len' {α : Type} (f : α → List Value) (sz : Nat) (hf : ∀ x, (f x).length = sz) : ∀ l : List α, (l.flatMap f).length = l.length * sz
  | [] => by simp
  | x :: l => by
    rw [List.flatMap_cons, List.length_append, flat_len' f sz hf l, hf, List.length_cons, Nat.add_mul, Nat.one_mul, Nat.add_comm]
theorem flat_at' {α : Type} (f : α → List Value) (sz : Nat) (hf : ∀ x, (f x).length = sz) : ∀ (l : List α) (i : Nat) (x : α), l[i]? = some x → ∀ j, j < sz → (l.flatMap f)[i * sz + j]? = (f x)[j]?
  | [], i, x, h, _, _ => by simp at h
  | y :: l, 0, x, h, j, hj => by
    simp at h
    subst h
    rw [List.flatMap_cons, Nat.zero_mul, Nat.zero_add, List.getElem?_append_left (by rw [hf]; exact hj)]
  | y :: l, i + 1, x, h, j, hj => by
    have h2 := flat_at' f sz hf l i x (by simpa using h) j hj
    rw [List.flatMap_cons, List.getElem?_append_right (by rw [hf, Nat.add_mul, Nat.one_mul]; omega), hf, ← h2]
    congr 1
    rw [Nat.add_mul, Nat.one_mul]; omega
/-- A slice, and what its cells hold. -/
def SlAt (w : World) (v : Value) (n : Nat) (cs : List Value) : Prop :=
  ∃ A c, v = .slice A n c ∧ n ≤ c ∧ (0 < n → ∃ b o, A = some ⟨b, o, none⟩ ∧ b < w.heap.size ∧ ∀ j u, cs[j]? = some u → w.cell? ⟨b, o + j, none⟩ = some u)
section
variable {w w' : World} {v : Value} {n : Nat} {cs : List Value}
theorem SlAt.below (h : SlAt w v n cs) (hb : Below w.heap.size w w') : SlAt w' v n cs := by
  obtain ⟨A, c, h1, hc, h2⟩ := h
  refine ⟨A, c, h1, hc, fun hp => ?_⟩
  obtain ⟨b, o, e1, e2, e3⟩ := h2 hp
  exact ⟨b, o, e1, Nat.lt_of_lt_of_le e2 hb.size, fun j u hu => (World.cell?_of_block (hb.block b e2)).trans (e3 j u hu)⟩
theorem SlAt.form (h : SlAt w v n cs) : ∃ A c, v = .slice A n c := by
  obtain ⟨A, c, h1, _⟩ := h
  exact ⟨A, c, h1⟩
theorem SlAt.cells {A : Option Addr} {c : Nat} (h : SlAt w (.slice A n c) n cs) (hp : 0 < n) : ∃ b o, A = some ⟨b, o, none⟩ ∧ b < w.heap.size ∧ ∀ j u, cs[j]? = some u → w.cell? ⟨b, o + j, none⟩ = some u := by
  obtain ⟨A', c', h1, _, h2⟩ := h
  cases h1
  exact h2 hp
theorem slAt_own {base sz : Nat} {t : TypeId} (h : w.ownsRow base t sz v n cs) : SlAt w v n cs := by
  rcases h.2 with ⟨rfl, h0⟩ | ⟨g, cap, cur, rfl, h1, h2, h3⟩
  · subst h0
    exact ⟨none, 0, rfl, Nat.le_refl _, fun h => absurd h (by omega)⟩
  · refine ⟨some ⟨g, 0, none⟩, cap, rfl, h3.1, fun _ => ⟨g, 0, rfl, lt_of_block h2, fun j u hu => ?_⟩⟩
    have := h.cells rfl j u hu
    rwa [Addr.add_mid] at this
end
end Go.Proofs.YtlpbbjjibnbooaaGreatDoor

namespace Go.Proofs.YtlpbbjjibnbooaaGreatDoor
set_option linter.unusedVariables false
set_option linter.unusedSimpArgs false
open Go.RowKit

end Go.Proofs.YtlpbbjjibnbooaaGreatDoor

namespace Go.Proofs.YtlpbbjjibnbooaaGreatDoor
set_option linter.unusedVariables false
set_option linter.unusedSimpArgs false

def secN (s : List UInt8) : Nat := s.length / 64
def secAt (s : List UInt8) (i : Nat) : List UInt8 := (s.drop (i * 64)).take 64
theorem secAt_len {s : List UInt8} {i : Nat} (h : i < secN s) : (secAt s i).length = 64 := by
  unfold secN at h
  unfold secAt
  rw [List.length_take, List.length_drop]
  omega
end Go.Proofs.YtlpbbjjibnbooaaGreatDoor

namespace Go.Proofs.YtlpbbjjibnbooaaGreatDoor
set_option linter.unusedVariables false
set_option linter.unusedSimpArgs false
open Go.RowKit

end Go.Proofs.YtlpbbjjibnbooaaGreatDoor

namespace Go.Proofs.YtlpbbjjibnbooaaGreatDoor
set_option linter.unusedVariables false
set_option linter.unusedSimpArgs false
open Go.RowKit

theorem one_new' (w : World) (u : Value) (t : TypeId) : ∀ j v, [u][j]? = some v → (w.alloc (.cells #[u] t)).cell? ((⟨w.heap.size, 0, none⟩ : Addr).add j) = some v := by
  intro j v h
  rw [Addr.add_mid, Nat.zero_add]
  refine cell_new rfl ?_
  simpa using h
end Go.Proofs.YtlpbbjjibnbooaaGreatDoor
