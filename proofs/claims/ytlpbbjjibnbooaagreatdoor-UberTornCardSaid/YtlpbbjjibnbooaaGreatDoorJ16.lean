/-
  Contracts of package dev: Flush.
  What every device keeps, from act to act. No program stands here.
  Slices, and what their cells hold; predicates over them. No program stands here but slices.ContainsFunc over texts.
  Rows of bytes: made, and turned into texts.
  Parities, as plain words. No program stands here.
  Contracts of package par.
  Contracts of package code: sectors.
  A block as columns, as plain words. No program stands here.
  Contracts of package code: row.
  Contracts of package code: Encode.
  A pool's devices in memory.
-/
import Derived.Test.YtlpbbjjibnbooaaGreatDoorJ15
import Derived.StillTailTactics
import Derived.Test.YtlpbbjjibnbooaaGreatDoorJ14
import Derived.Test.YtlpbbjjibnbooaaGreatDoorRows
import Derived.Test.YtlpbbjjibnbooaaGreatDoorJ04
import Derived.Test.YtlpbbjjibnbooaaGreatDoorJ01
import Derived.Maps.AppendAt
import Derived.Test.YtlpbbjjibnbooaaGreatDoorJ08
import Derived.Test.YtlpbbjjibnbooaaGreatDoorJ03
namespace Go.Proofs.YtlpbbjjibnbooaaGreatDoor
set_option linter.unusedVariables false
set_option linter.unusedSimpArgs false
open Go.RowKit

namespace DevD
/-- Flushed, but for what is left. -/
def part (d : DevD) (left : Nat → Bool) : DevD := { d with med := d.med.mapIdx fun k s => if left k then s else lastOr (d.cac k) s }
theorem part_len (d : DevD) (left : Nat → Bool) : (d.part left).med.length = d.med.length := by simp [part]
theorem part_start (d : DevD) (left : Nat → Bool) (h : ∀ k, left k = false → d.cac k = []) : d.part left = d := by
  have : (d.med.mapIdx fun k s => if left k then s else lastOr (d.cac k) s) = d.med := by
    refine List.ext_getElem (by simp) fun k h1 h2 => ?_
    simp only [List.getElem_mapIdx]
    by_cases e : left k = true
    · rw [if_pos e]
    · rw [if_neg e, h k (by simpa using e)]; rfl
  unfold part
  rw [this]
theorem part_step (d : DevD) (left : Nat → Bool) (k : Nat) (hk : k < d.med.length) (hc : d.cac k ≠ []) :
    ({ d.part left with med := (d.part left).med.set k ((d.part left).now k) } : DevD) = d.part (fun j => left j && j != k) := by
  have hn : (d.part left).now k = lastOr (d.cac k) (d.med[k]) := by
    unfold now lastOr
    show ((d.cac k).getLast?).getD _ = _
    cases h : (d.cac k).getLast? with
    | none => exact absurd (List.getLast?_eq_none_iff.1 h) hc
    | some x => rfl
  unfold part at *
  simp only [DevD.mk.injEq, true_and, and_true]
  rw [hn]
  refine List.ext_getElem (by simp) fun j h1 h2 => ?_
  simp only [List.getElem_mapIdx, List.getElem_set]
  by_cases e : k = j
  · subst e; simp
  · have e' : (j != k) = true := by simpa using fun h => e h.symm
    rw [if_neg e]
    simp only [e', Bool.and_true]
theorem part_end (d : DevD) (left : Nat → Bool) (h : ∀ k, k < d.med.length → left k = false) : ({ d.part left with cac := fun _ => [] } : DevD) = d.settled := by
  unfold part settled
  simp only [DevD.mk.injEq, and_true]
  refine List.ext_getElem (by simp) fun k h1 h2 => ?_
  simp only [List.getElem_mapIdx]
  rw [h k (by simpa using h1)]; rfl
end DevD

set_option maxRecDepth 20000 in
theorem flush_ok {w : World} {S : Nat → Prop} {bd : Nat} {d : DevD} (h : DevAt w S bd d) (hlo : d.lost = false) (hf : d.fuse ≠ 0) (ok : d.Ok) : Calls Tryz.prog 20 #[.pointer (some ⟨bd, 0, none⟩)] w fun e w' =>
    e = .returned (.int .i64 0) ∧ DevAt w' S bd d.burn.settled ∧ Only S w w' := by
  have HL := Lib.hid (lost_any h)
  rw [hlo] at HL
  have HB := Lib.hid (burnt_no h hf ok.f1 ok.f2)
  have HLT := Lib.hid h.lts
  have few := ok.few
  clear h hlo hf ok
  go_enter Tryz.func20, Tryz.ntmps20
  go_wp2_with fail
  refine HL.out.mono ?_
  rintro e w1 ⟨rfl, rfl⟩
  go_wp2_with fail
  refine HB.out.mono ?_
  rintro e w1 ⟨rfl, h2, hO, hz⟩
  obtain ⟨mb, mcap, cb, g, h2⟩ := h2
  obtain ⟨c0, c1, c2, c3⟩ := h2.cells
  have HO := Lib.hid hO
  have HZ := Lib.hid hz
  have HM := Lib.hid h2.map
  have H2 := Lib.hid h2
  have hb0 : d.burn.med.length = d.med.length := rfl
  rw [hb0] at c0
  clear h2 hO hz hb0
  go_wp2_with (at_range; refine wpList_map_range rfl _ 96 rfl 3 95 Tryz.underlying3 Tryz.underlying96 cb _ g rfl HM.out ?_; intro w2 cnt hran hg2 hs2)
  have h3 := H2.out.same (w' := w2) (by omega) (fun i hi => hg2.block i (H2.out.lt i hi) (by simp))
  have HR := Lib.hid hran
  have HG2 := Lib.hid hg2
  have HS2 := Lib.hid hs2
  have H3 := Lib.hid h3
  clear hran hg2 hs2 h3 c0 c1 c2 c3
  go_frame
  go_loopw [3] (fun _ wr => ∃ (left : Int → Bool) (cnt : Nat), RanAt Tryz.prog 3 wr cb w1.heap.size d.burn.med.length g left cnt ∧ DevIn wr S bd (d.burn.part fun k => left k) mb mcap cb g ∧ (∀ k : Nat, d.med.length ≤ k → left k = false) ∧ Only S w1 wr ∧ w1.heap.size + 1 ≤ wr.heap.size)
    (fun _ wr => wr.rangeLeft cb w1.heap.size)
  case atStart =>
    refine ⟨_, cnt, HR.out, ?_, fun k hk => ?_, Only.of_grown' HG2.out (fun b e => by cases e), by have := HS2.out; omega⟩
    · rw [DevD.part_start]
      · exact H3.out
      · intro k hk
        exact H2.out.none_ k (by simpa using hk)
    · cases hg : g k with
      | none => rfl
      | some v => have := H2.out.keys k (by rw [hg]; rfl); simp only [DevD.burn] at this; omega
  case round =>
    obtain ⟨left, cnt1, hran, hin, hout, hon, hsz⟩ := hrel
    have HLE : Hid (wr.rangeLeft cb w1.heap.size = cnt1) := Lib.hid hran.left_eq
    have HIN := Lib.hid hin
    have HOUT := Lib.hid hout
    have HON := Lib.hid hon
    have HSZ := Lib.hid hsz
    have HRAN := Lib.hid hran
    clear hran hin hout hon hsz
    go_wp2_with (at_next; refine wpList_map_next rfl _ rfl 3 Tryz.underlying3 cb w1.heap.size _ g left cnt1 rfl HRAN.out ?_ ?_)
    · intro hdone
      have hfin := HIN.out
      have hcl := (hfin.map).clear (t := 96) (ty := 0) Tryz.underlying96
      obtain ⟨w5, hrun, hm5, hg5, hs5⟩ := hcl
      have H5 := Lib.hid (hfin.cleared hm5 hg5 hs5)
      have HO5 : Hid (Only S wr w5) := Lib.hid (Only.of_grown hg5 hfin.sc)
      obtain ⟨c0, c1, c2, c3⟩ := hfin.cells
      have HD := Lib.hid hdone
      have few2 : Hid (d.med.length ≤ 4096) := Lib.hid few
      clear hfin hm5 hg5 hs5 hdone few c0 c2 c3
      go_wp2_with fail
      go_ret
      refine ⟨rfl, ⟨mb, mcap, cb, fun _ => none, ?_⟩, (HO.out.trans HON.out (fun _ h => .inl h)).trans HO5.out (fun _ h => .inl h)⟩
      rw [← DevD.part_end d.burn (fun k => left k) (fun k hk => HD.out k (wfz_in (by omega) (by have := few2.out; simp only [DevD.burn] at hk; omega)))]
      exact H5.out
    · intro x v w3 cnt2 hwx hlx hgx hran3 hlt hg3 hs3 hen
      have hk := HIN.out.keys x (by rw [hgx]; rfl)
      rw [DevD.part_len] at hk
      obtain ⟨k, rfl⟩ := Int.eq_ofNat_of_zero_le hk.1
      have hlts := HLT.out
      have h4 := HIN.out.same (w' := w3) (by omega) (fun i hi => hg3.block i (HIN.out.lt i hi) (fun e => by cases e; have := H2.out.lt _ hi; omega))
      have hat : DevAt w3 S bd (d.burn.part fun k => left k) := ⟨mb, mcap, cb, g, h4⟩
      have hk2 : k < d.med.length := by have := hk.2; simp only [DevD.burn] at this; omega
      have HN : Hid (Calls Tryz.prog 46 #[.pointer (some ⟨bd, 0, none⟩), .int .i64 k] w3.drew fun e w' => e = .returned (str ((d.burn.part fun k => left k).now k)) ∧ w' = w3.drew) :=
        Lib.hid ((now_any hat.drew k (by rw [DevD.part_len]; exact hk2) (by rw [DevD.part_len]; exact few)).mono fun e w' h => ⟨h.1, h.2.symm⟩)
      obtain ⟨c0, c1, c2, c3⟩ := h4.cells
      rw [DevD.part_len] at c0
      have hb0 : d.burn.med.length = d.med.length := rfl
      rw [hb0] at c0
      have hfz := (h4.med_at (k := k) (by rw [DevD.part_len]; exact hk2)).2
      obtain ⟨cm, _⟩ := h4.med_at (k := k) (by rw [DevD.part_len]; exact hk2)
      have H4 := Lib.hid h4
      have HX := Lib.hid hgx
      have HLX := Lib.hid hlx
      have HRAN3 := Lib.hid hran3
      have HG3 := Lib.hid hg3
      have HS3 := Lib.hid hs3
      have HLTC := Lib.hid hlt
      have HK2 := Lib.hid hk2
      have HHK := Lib.hid hk
      have HLTS := Lib.hid hlts
      generalize hv : (d.burn.part fun k => left k).now k = nv at *
      have HNV := Lib.hid hv
      clear hat h4 hgx hlx hran3 hg3 hs3 hlt hlts hk hb0 c1 c2 c3 hv
      repeat' (first
        | go_values
        | go_skip
        | go_guarded
        | ((fail_if_success (with_reducible refine drawn_mark ?_))
           first
             | go_step
             | go_upon
             | go_back
             | (simp only [Int.not_lt, Int.not_le] at *; go_simp)
             | (go_values <;> (try go_simp))
             | (go_ite <;> go_prune <;> (try go_simp))
             | (split <;> (first | (rename_i hx; exact (hx _ rfl).elim) | go_prune))))
      refine wp_region_still_tail 9 (by kernel_rfl) (by kernel_rfl) ?_
      simp only [List.take_succ_cons, List.take_zero, List.drop_succ_cons, List.drop_zero]
      repeat still_step
      still_call HN.out
      repeat still_step
      try refine wpStill_nil ?_
      change wpList _ _ _ _ _ w3.drew
      have hfz2 : w3.drew.frozen? ⟨mb, k, none⟩ = false := hfz
      have cm2 : w3.drew.cell? ⟨mb, k, none⟩ = some (str ((d.burn.part fun k => left k).medAt k)) := cm
      clear hfz cm c0
      go_wp2_with fail
      have hmcb := H4.out.nes
      have hrlt := HRAN3.out.lt
      have hrm : w1.heap.size ≠ mb := by have := H2.out.lt mb H2.out.sm; omega
      have hblk : ∀ i, i ≠ mb → (w3.setCell ⟨mb, k, none⟩ (str nv)).drew.heap[i]? = w3.heap[i]? := fun i hi => Below.heap_setCell w3 ⟨mb, k, none⟩ _ i hi
      have hran5 := HRAN3.out.kept (w' := (w3.setCell ⟨mb, k, none⟩ (str nv)).drew) (hblk cb hmcb.2.2) (hblk _ hrm)
      have hszd : (w3.setCell ⟨mb, k, none⟩ (str nv)).drew.heap.size = w3.heap.size := by show (w3.setCell ⟨mb, k, none⟩ (str nv)).heap.size = _; simp [World.setCell]
      have hlc := HLTC.out
      have hle := HLE.out
      have hl5 := hran5.left_eq
      have hcac : d.burn.cac k ≠ [] := (H4.out.rows k v HX.out).1
      go_roundw
      case rel =>
        refine ⟨fun z => left z && z != (k : Int), cnt2, hran5, ?_, fun j hj => by show (left j && _) = false; rw [HOUT.out j hj]; rfl, ?_, ?_⟩
        · have h6 := (H4.out.med_set (k := k) (by rw [DevD.part_len]; exact HK2.out) nv).same (w' := (w3.setCell ⟨mb, k, none⟩ (str nv)).drew) (Nat.le_refl _) (fun _ _ => rfl)
          have e : (fun j : Nat => (fun k : Nat => left k) j && j != k) = fun j : Nat => (left j && (j : Int) != (k : Int)) := by
            funext j
            have : (j != k) = ((j : Int) != (k : Int)) := by
              by_cases e : j = k
              · subst e; simp
              · have e2 : ¬ (j : Int) = k := by omega
                rw [show (j != k) = true from by simpa using e, show ((j : Int) != (k : Int)) = true from by simpa using e2]
            rw [this]
          have e0 := DevD.part_step d.burn (fun k => left k) k HK2.out hcac
          rw [HNV.out, e] at e0
          show DevIn _ S bd (d.burn.part fun j : Nat => (left j && (j : Int) != (k : Int))) mb mcap cb g
          rw [← e0]
          exact h6
        · have hA : Only S w1 w3 := HON.out.trans (Only.of_grown (S := fun i => i = w1.heap.size) HG3.out rfl) (fun i hi => .inr (by omega))
          exact (hA.set (.inl H2.out.sm) _).drew
        · show w1.heap.size + 1 ≤ (w3.setCell ⟨mb, k, none⟩ (str nv)).drew.heap.size
          rw [hszd]
          have := HS3.out; have := HSZ.out; omega
      case measure =>
        show (w3.setCell ⟨mb, k, none⟩ (str nv)).drew.rangeLeft cb w1.heap.size < wr.rangeLeft cb w1.heap.size
        rw [hl5, hle]; exact hlc

theorem flush_any {w : World} {S : Nat → Prop} {bd : Nat} {d : DevD} (h : DevAt w S bd d) (ok : d.Ok) : Calls Tryz.prog 20 #[.pointer (some ⟨bd, 0, none⟩)] w fun e w' =>
    e = .returned (.int .i64 d.flE) ∧ DevAt w' S bd d.fl ∧ Only S w w' := by
  have HE : Hid (d.flE = if d.lost = true ∨ d.fuse = 0 then 6 else 0) := Lib.hid rfl
  have HF : Hid (d.fl = if d.flE = 0 then d.burn.settled else d) := Lib.hid rfl
  have HL := Lib.hid (lost_any h)
  have HD := Lib.hid h
  cases hlo : d.lost with
  | true =>
    have h1 : d.flE = 6 := by rw [HE.out, if_pos (.inl hlo)]
    rw [HF.out, if_neg (by omega), h1]
    rw [hlo] at HL
    clear h1 hlo h HE ok
    go_enter Tryz.func20, Tryz.ntmps20
    go_wp2_with fail
    refine HL.out.mono ?_
    rintro e w1 ⟨rfl, rfl⟩
    go_wp2_with fail
    go_ret
    exact ⟨rfl, HD.out, Only.refl _ _⟩
  | false =>
    by_cases hf : d.fuse = 0
    · have h1 : d.flE = 6 := by rw [HE.out, if_pos (.inr hf)]
      rw [HF.out, if_neg (by omega), h1]
      have HB := Lib.hid (burnt_yes h hf)
      rw [hlo] at HL
      clear h1 hlo h HE ok hf
      go_enter Tryz.func20, Tryz.ntmps20
      go_wp2_with fail
      refine HL.out.mono ?_
      rintro e w1 ⟨rfl, rfl⟩
      go_wp2_with fail
      refine HB.out.mono ?_
      rintro e w1 ⟨rfl, rfl⟩
      go_wp2_with fail
      go_ret
      exact ⟨rfl, HD.out, Only.refl _ _⟩
    · have h1 : d.flE = 0 := by
        rw [HE.out, if_neg]
        rintro (h | h)
        · rw [hlo] at h; cases h
        · exact hf h
      rw [HF.out, if_pos h1, h1]
      exact flush_ok h hlo hf ok
end Go.Proofs.YtlpbbjjibnbooaaGreatDoor

namespace Go.Proofs.YtlpbbjjibnbooaaGreatDoor
set_option linter.unusedVariables false
set_option linter.unusedSimpArgs false

namespace DevD
theorem wrE_ok {d : DevD} {a : Int} {s : List UInt8} (h : d.wrE a s = 0) : d.mayE a = 0 ∧ s.length = 64 ∧ d.fuse ≠ 0 := by
  unfold wrE at h
  by_cases e : d.mayE a = 0
  · rw [if_neg (by simpa using e)] at h
    split at h
    · omega
    · split at h
      · omega
      · exact ⟨e, by omega, by omega⟩
  · rw [if_pos e] at h; exact absurd h e
theorem Ok.burn {d : DevD} (h : d.Ok) : d.burn.Ok := ⟨h.pos, h.few, h.med, h.cac, h.inn, by have := h.f1; show -1 ≤ max (d.fuse - 1) (-1); omega, by have := h.f2; show max (d.fuse - 1) (-1) ≤ _; omega⟩
theorem Ok.put {d : DevD} (h : d.Ok) {k : Nat} (hk : k < d.med.length) {s : List UInt8} (hs : s.length = 64) : (d.put k s).Ok := by
  refine ⟨h.pos, h.few, h.med, fun j t ht => ?_, fun j hj => ?_, h.f1, h.f2⟩
  · simp only [DevD.put] at ht
    split at ht
    · rcases List.mem_append.1 ht with ht | ht
      · exact h.cac j t ht
      · simp at ht; rw [ht]; exact hs
    · exact h.cac j t ht
  · have hj : d.med.length ≤ j := hj
    show (if j = k then _ else d.cac j) = []
    rw [if_neg (by omega)]; exact h.inn j hj
theorem Ok.wr {d : DevD} (h : d.Ok) (a : Int) (s : List UInt8) : (d.wr a s).Ok := by
  unfold DevD.wr
  split
  · rename_i h0
    have h1 := wrE_ok h0
    have h2 := mayE_ok h1.1
    exact h.burn.put (by show a.toNat < d.med.length; omega) h1.2.1
  · exact h
theorem lastOr_len {l : List (List UInt8)} {s : List UInt8} (h1 : ∀ x ∈ l, x.length = 64) (h2 : s.length = 64) : (lastOr l s).length = 64 := by
  unfold lastOr
  cases h : l.getLast? with
  | none => exact h2
  | some x => exact h1 x (List.mem_of_getLast? h)
theorem Ok.settled {d : DevD} (h : d.Ok) : d.settled.Ok := by
  refine ⟨by simpa [DevD.settled] using h.pos, by simpa [DevD.settled] using h.few, fun s hs => ?_, fun k s hs => by simp [DevD.settled] at hs, fun k _ => rfl, h.f1, h.f2⟩
  simp only [DevD.settled, List.mem_mapIdx] at hs
  obtain ⟨k, hk, rfl⟩ := hs
  exact lastOr_len (h.cac k) (h.med _ (List.getElem_mem hk))
theorem Ok.fl {d : DevD} (h : d.Ok) : d.fl.Ok := by
  unfold DevD.fl
  split
  · exact h.burn.settled
  · exact h
theorem pick_len {keep : List Int} {i : Nat} {l : List (List UInt8)} {s : List UInt8} (h1 : ∀ x ∈ l, x.length = 64) (h2 : s.length = 64) : (pick keep i l s).length = 64 := by
  unfold pick
  split
  · exact h2
  · rename_i x hx
    split
    · rename_i hv
      have hlt : vers x l.length - 1 < l.length := by
        have h3 : (x.tmod (l.length + 1) + l.length + 1).tmod (l.length + 1) < l.length + 1 := Int.tmod_lt_of_pos _ (by omega)
        unfold vers at *
        omega
      rw [List.getD_eq_getElem?_getD, List.getElem?_eq_getElem hlt]
      exact h1 _ (List.getElem_mem hlt)
    · exact h2
theorem Ok.crash {d : DevD} (h : d.Ok) (keep : List Int) : (d.crash keep).Ok := by
  unfold DevD.crash
  split
  · exact h
  · refine ⟨by simpa [crashMed] using h.pos, by simpa [crashMed] using h.few, fun s hs => ?_, fun k s hs => by simp at hs, fun k _ => rfl, by simp, by simp⟩
    simp only [crashMed, List.mem_mapIdx] at hs
    obtain ⟨k, hk, rfl⟩ := hs
    split
    · exact pick_len (h.cac k) (h.med _ (List.getElem_mem hk))
    · exact h.med _ (List.getElem_mem hk)
theorem Ok.lose {d : DevD} (h : d.Ok) : d.lose.Ok := ⟨h.pos, h.few, h.med, fun k s hs => by simp [DevD.lose] at hs, fun k _ => rfl, h.f1, h.f2⟩
theorem Ok.spoil {d : DevD} (h : d.Ok) (a place : Int) (b : UInt8) : (d.spoil a place b).Ok := by
  unfold DevD.spoil
  split
  · rename_i h0
    have hm : d.mayE a = 0 := by simp only [spoilOk, Bool.and_eq_true, decide_eq_true_eq] at h0; exact h0.1
    have h2 := mayE_ok hm
    have hk : a.toNat < d.med.length := by omega
    have hn : (d.now a.toNat).length = 64 := by
      refine lastOr_len (h.cac _) ?_
      unfold medAt
      rw [List.getD_eq_getElem?_getD, List.getElem?_eq_getElem hk]
      exact h.med _ (List.getElem_mem hk)
    have hf : (flip (d.now a.toNat) (spot place) b).length = 64 := by unfold flip; rw [List.length_set]; exact hn
    generalize flip (d.now a.toNat) (spot place) b = t at *
    unfold spoiled
    split
    · refine ⟨by simpa using h.pos, by simpa using h.few, fun s hs => ?_, h.cac, fun k hk => h.inn k (by simpa using hk), h.f1, h.f2⟩
      rcases List.mem_or_eq_of_mem_set hs with hs | rfl
      · exact h.med s hs
      · exact hf
    · rename_i hne
      refine ⟨h.pos, h.few, h.med, fun k s hs => ?_, fun k hk2 => ?_, h.f1, h.f2⟩
      · simp only at hs
        split at hs
        · rcases List.mem_or_eq_of_mem_set hs with hs | rfl
          · exact h.cac k s hs
          · exact hf
        · exact h.cac k s hs
      · have hk2 : d.med.length ≤ k := hk2
        show (if k = a.toNat then _ else d.cac k) = []
        rw [if_neg (by omega)]; exact h.inn k hk2
  · exact h
theorem put_len (d : DevD) (k : Nat) (s : List UInt8) (j : Nat) : ((d.put k s).cac j).length ≤ (d.cac j).length + 1 := by
  simp only [DevD.put]
  split <;> simp
theorem wr_len (d : DevD) (a : Int) (s : List UInt8) (j : Nat) : ((d.wr a s).cac j).length ≤ (d.cac j).length + 1 := by
  unfold wr
  split
  · exact put_len d.burn _ s j
  · omega
theorem wr_med (d : DevD) (a : Int) (s : List UInt8) : (d.wr a s).med.length = d.med.length := by
  unfold wr
  split <;> rfl
theorem fl_len (d : DevD) (j : Nat) : (d.fl.cac j).length ≤ (d.cac j).length := by
  unfold fl
  split
  · simp [settled]
  · exact Nat.le_refl _
end DevD
end Go.Proofs.YtlpbbjjibnbooaaGreatDoor

namespace Go.Proofs.YtlpbbjjibnbooaaGreatDoor
set_option linter.unusedVariables false
set_option linter.unusedSimpArgs false
open Go.RowKit

theorem flat_len' {α : Type} (f : α → List Value) (sz : Nat) (hf : ∀ x, (f x).length = sz) : ∀ l : List α, (l.flatMap f).length = l.length * sz
  | [] => by simp
  | x :: l => by
    rw [List.flatMap_cons, List.length_append, flat_len' f sz hf l, hf, List.length_cons, Nat.add_mul, Nat.one_mul, Nat.add_comm]
theorem flat_at' {α : Type} (f : α → List Value) (sz : Nat) (hf : ∀ x, (f x).length = sz) : ∀ (l : List α) (i : Nat) (x : α), l[i]? = some x → ∀ j, j < sz → (l.flatMap f)[i * sz + j]? = (f x)[j]?
  | [], i, x, h, _, _ => by simp at h
  | y :: l, 0, x, h, j, hj => by
    simp at h
    subst h
    rw [List.flatMap_cons, Nat.zero_mul, Nat.zero_add, List.getElem?_append_left (by rw [hf]; exact hj)]
  | y :: l, i + 1, x, h, j, hj => by
    have h2 := flat_at' f sz hf l i x (by simpa using h) j hj
    rw [List.flatMap_cons, List.getElem?_append_right (by rw [hf, Nat.add_mul, Nat.one_mul]; omega), hf, ← h2]
    congr 1
    rw [Nat.add_mul, Nat.one_mul]; omega
/-- A slice, and what its cells hold. -/
def SlAt (w : World) (v : Value) (n : Nat) (cs : List Value) : Prop :=
  ∃ A c, v = .slice A n c ∧ n ≤ c ∧ (0 < n → ∃ b o, A = some ⟨b, o, none⟩ ∧ b < w.heap.size ∧ ∀ j u, cs[j]? = some u → w.cell? ⟨b, o + j, none⟩ = some u)
section
variable {w w' : World} {v : Value} {n : Nat} {cs : List Value}
theorem SlAt.below (h : SlAt w v n cs) (hb : Below w.heap.size w w') : SlAt w' v n cs := by
  obtain ⟨A, c, h1, hc, h2⟩ := h
  refine ⟨A, c, h1, hc, fun hp => ?_⟩
  obtain ⟨b, o, e1, e2, e3⟩ := h2 hp
  exact ⟨b, o, e1, Nat.lt_of_lt_of_le e2 hb.size, fun j u hu => (World.cell?_of_block (hb.block b e2)).trans (e3 j u hu)⟩
theorem SlAt.form (h : SlAt w v n cs) : ∃ A c, v = .slice A n c := by
  obtain ⟨A, c, h1, _⟩ := h
  exact ⟨A, c, h1⟩
theorem SlAt.cells {A : Option Addr} {c : Nat} (h : SlAt w (.slice A n c) n cs) (hp : 0 < n) : ∃ b o, A = some ⟨b, o, none⟩ ∧ b < w.heap.size ∧ ∀ j u, cs[j]? = some u → w.cell? ⟨b, o + j, none⟩ = some u := by
  obtain ⟨A', c', h1, _, h2⟩ := h
  cases h1
  exact h2 hp
theorem slAt_own {base sz : Nat} {t : TypeId} (h : w.ownsRow base t sz v n cs) : SlAt w v n cs := by
  rcases h.2 with ⟨rfl, h0⟩ | ⟨g, cap, cur, rfl, h1, h2, h3⟩
  · subst h0
    exact ⟨none, 0, rfl, Nat.le_refl _, fun h => absurd h (by omega)⟩
  · refine ⟨some ⟨g, 0, none⟩, cap, rfl, h3.1, fun _ => ⟨g, 0, rfl, lt_of_block h2, fun j u hu => ?_⟩⟩
    have := h.cells rfl j u hu
    rwa [Addr.add_mid] at this
end
end Go.Proofs.YtlpbbjjibnbooaaGreatDoor

namespace Go.Proofs.YtlpbbjjibnbooaaGreatDoor
set_option linter.unusedVariables false
set_option linter.unusedSimpArgs false
open Go.RowKit

/-- Bytes as cells. -/
def bytC (X : List UInt8) : List Value := X.map fun b => Value.int .u8 (b.toNat : Int)
theorem Tryz.infoU8 : (Tryz.prog.info? 5).map (fun i => (i.zero, i.size, i.bytes)) = some (some (.int .u8 0), 1, 1) := by kernel_rfl
theorem mk_bytes (w : World) (n : Nat) (hn : n ≤ 16384) : ∃ w1, (Instr.makeSlice 43 (.int .i64 n) (.int .i64 n)).run Tryz.prog w = .ok (.slice (some ⟨w.heap.size, 0, none⟩) n n) w1 ∧
    Blk w1 w.heap.size 5 (bytC (List.replicate n 0)).toArray ∧ w1.heap.size = w.heap.size + 1 ∧ Below w.heap.size w w1 := by
  obtain ⟨i0, hi, hz0, hz1, hz2⟩ := info_parts Tryz.infoU8
  have hrun := run_makeSlice w 43 5 i0 (.int .u8 0) Tryz.underlying43 hi hz0 .i64 .i64 n n (by omega) (Int.le_refl _) (by rw [hz1]; omega) (by rw [hz2]; omega) (by omega)
  have hc : madeCells (Value.int .u8 0).cells ((n : Int).toNat * i0.size) = (bytC (List.replicate n 0)).toArray := by
    rw [hz1, Int.toNat_natCast, Nat.mul_one]
    apply Array.ext'
    have : (Value.int .u8 0).cells = #[.int .u8 0] := rfl
    rw [this, toList_madeCells_one]
    simp [bytC]
  rw [hc, Int.toNat_natCast] at hrun
  exact ⟨_, hrun, Blk.new _ _ _, by simp, keep_alloc (Below.refl _ _) _⟩
theorem conv_bytes {w : World} {g : Nat} {X : List UInt8} (hX : Blk w g 5 (bytC X).toArray) (n cap : Nat) (hn : n = X.length) : (convert 43 9 (.slice (some ⟨g, 0, none⟩) n cap)).run Tryz.prog w = .ok (str X) w := by
  subst hn
  refine run_convert_bytes_back (P := Tryz.prog) w 43 9 5 ⟨g, 0, none⟩ cap X Tryz.underlying43 Tryz.underlying5 Tryz.underlying9 (fun j hj => ?_)
  rw [Addr.add_mid, Nat.zero_add]
  refine hX.at_ ?_
  simp [bytC, List.getElem?_eq_getElem hj]
end Go.Proofs.YtlpbbjjibnbooaaGreatDoor

namespace Go.Proofs.YtlpbbjjibnbooaaGreatDoor
set_option linter.unusedVariables false
set_option linter.unusedSimpArgs false

def secN (s : List UInt8) : Nat := s.length / 64
def secAt (s : List UInt8) (i : Nat) : List UInt8 := (s.drop (i * 64)).take 64
theorem secAt_len {s : List UInt8} {i : Nat} (h : i < secN s) : (secAt s i).length = 64 := by
  unfold secN at h
  unfold secAt
  rw [List.length_take, List.length_drop]
  omega
end Go.Proofs.YtlpbbjjibnbooaaGreatDoor

namespace Go.Proofs.YtlpbbjjibnbooaaGreatDoor
set_option linter.unusedVariables false
set_option linter.unusedSimpArgs false
open Go.RowKit

end Go.Proofs.YtlpbbjjibnbooaaGreatDoor

namespace Go.Proofs.YtlpbbjjibnbooaaGreatDoor
set_option linter.unusedVariables false
set_option linter.unusedSimpArgs false
open Go.RowKit

theorem one_new' (w : World) (u : Value) (t : TypeId) : ∀ j v, [u][j]? = some v → (w.alloc (.cells #[u] t)).cell? ((⟨w.heap.size, 0, none⟩ : Addr).add j) = some v := by
  intro j v h
  rw [Addr.add_mid, Nat.zero_add]
  refine cell_new rfl ?_
  simpa using h
end Go.Proofs.YtlpbbjjibnbooaaGreatDoor

namespace Go.Proofs.YtlpbbjjibnbooaaGreatDoor
set_option linter.unusedVariables false
set_option linter.unusedSimpArgs false

end Go.Proofs.YtlpbbjjibnbooaaGreatDoor

namespace Go.Proofs.YtlpbbjjibnbooaaGreatDoor
set_option linter.unusedVariables false
set_option linter.unusedSimpArgs false
open Go.RowKit

theorem sets_size' {g : Nat} : ∀ (vs : List Value) (o : Nat) (w : World), (w.setCells g o vs).heap.size = w.heap.size
  | [], _, _ => rfl
  | v :: r, o, w => by rw [World.setCells, sets_size' r]; simp [World.setCell]
end Go.Proofs.YtlpbbjjibnbooaaGreatDoor

namespace Go.Proofs.YtlpbbjjibnbooaaGreatDoor
set_option linter.unusedVariables false
set_option linter.unusedSimpArgs false
open Go.RowKit

end Go.Proofs.YtlpbbjjibnbooaaGreatDoor

namespace Go.Proofs.YtlpbbjjibnbooaaGreatDoor
set_option linter.unusedVariables false
set_option linter.unusedSimpArgs false
open Go.RowKit

/-- What stays of a pool's devices: the measure, and where all lies. -/
structure VX where
  gb : Nat
  m : Nat
  cc : Nat
  gs : List (Int × Int)
  secs : Nat
  lb : Nat
  lc : Nat
  ab : Nat
  bd : List Nat
abbrev VX.val (x : VX) : Value := .agg #[.slice (some ⟨x.gb, 0, none⟩) x.m x.cc, .int .i64 x.secs, .slice (some ⟨x.lb, 0, none⟩) x.bd.length x.lc, .slice (some ⟨x.ab, 0, none⟩) x.bd.length x.bd.length]
abbrev VX.cells (x : VX) : Array Value := #[.slice (some ⟨x.gb, 0, none⟩) x.m x.cc, .int .i64 x.secs, .slice (some ⟨x.lb, 0, none⟩) x.bd.length x.lc, .slice (some ⟨x.ab, 0, none⟩) x.bd.length x.bd.length]
/-- The devices of S, each in blocks of its own; the blocks of U are none of theirs. -/
structure VdIn (w : World) (S : Nat → Nat → Prop) (U : Nat → Prop) (x : VX) (aw : List Bool) (ds : List DevD) : Prop where
  geo : GeoAt w (some ⟨x.gb, 0, none⟩) x.m x.gs
  right : gRight x.gs x.secs = true
  nd : gSum x.gs = x.bd.length
  n1 : aw.length = x.bd.length
  n2 : ds.length = x.bd.length
  row : ∀ i b, x.bd[i]? = some b → w.cell? ⟨x.lb, i, none⟩ = some (.pointer (some ⟨b, 0, none⟩))
  box : Blk w x.ab 4 (aw.map Value.bool).toArray
  dev : ∀ i b d, x.bd[i]? = some b → ds[i]? = some d → DevAt w (S i) b d
  sz : ∀ d ∈ ds, d.med.length = x.secs
  lt : ∀ i b, S i b → b < w.heap.size
  fx : ∀ i b, S i b → ¬ U b
  apart : ∀ i j b, S i b → S j b → i = j
  us : ∀ b, U b → b < w.heap.size
  ug : U x.gb
  ul : U x.lb
  ua : U x.ab
  ne : x.gb ≠ x.ab ∧ x.lb ≠ x.ab
theorem cell_same' {w w' : World} {b o : Nat} (h : w'.heap[b]? = w.heap[b]?) : w'.cell? ⟨b, o, none⟩ = w.cell? ⟨b, o, none⟩ := by simp only [World.cell?, h]
theorem sets_far' {w : World} {b g : Nat} (hne : b ≠ g) : ∀ (vs : List Value) (o : Nat) (w : World), (w.setCells g o vs).heap[b]? = w.heap[b]?
  | [], _, _ => rfl
  | v :: r, o, w => by
    rw [World.setCells, sets_far' (w := w) hne r]
    exact Below.heap_setCell w _ _ b hne
theorem GeoAt.same {w w' : World} {g m : Nat} {gs : List (Int × Int)} (h : GeoAt w (some ⟨g, 0, none⟩) m gs) (hs : w.heap.size ≤ w'.heap.size) (hb : w'.heap[g]? = w.heap[g]?) : GeoAt w' (some ⟨g, 0, none⟩) m gs := by
  refine ⟨h.1, h.2.1, fun hn => ?_⟩
  obtain ⟨b, off, e, hg⟩ := h.2.2 hn
  cases e
  exact ⟨g, 0, rfl, Nat.lt_of_lt_of_le hg.1 hs, fun i x hx => ⟨(cell_same' hb).trans (hg.2 i x hx).1, (cell_same' hb).trans (hg.2 i x hx).2⟩⟩
section
variable {w w' : World} {S : Nat → Nat → Prop} {U V : Nat → Prop} {x : VX} {aw : List Bool} {ds : List DevD}
theorem VdIn.same3 (h : VdIn w S U x aw ds) (hs : w.heap.size ≤ w'.heap.size) (h1 : w'.heap[x.gb]? = w.heap[x.gb]?) (h2 : w'.heap[x.lb]? = w.heap[x.lb]?) (h3 : w'.heap[x.ab]? = w.heap[x.ab]?) (hd : ∀ i b, S i b → w'.heap[b]? = w.heap[b]?) : VdIn w' S U x aw ds :=
  ⟨h.geo.same hs h1, h.right, h.nd, h.n1, h.n2, fun i b hb => (cell_same' h2).trans (h.row i b hb), h3.trans h.box, fun i b d hb hdd => by
    obtain ⟨mb, mcap, cb, g, hh⟩ := h.dev i b d hb hdd
    exact ⟨mb, mcap, cb, g, hh.same hs (hd i)⟩, h.sz, fun i b hb => Nat.lt_of_lt_of_le (h.lt i b hb) hs, h.fx, h.apart, fun b hb => Nat.lt_of_lt_of_le (h.us b hb) hs, h.ug, h.ul, h.ua, h.ne⟩
theorem VdIn.same (h : VdIn w S U x aw ds) (hs : w.heap.size ≤ w'.heap.size) (hu : ∀ b, U b → w'.heap[b]? = w.heap[b]?) (hd : ∀ i b, S i b → w'.heap[b]? = w.heap[b]?) : VdIn w' S U x aw ds :=
  h.same3 hs (hu _ h.ug) (hu _ h.ul) (hu _ h.ua) hd
theorem VdIn.below (h : VdIn w S U x aw ds) (hb : Below w.heap.size w w') : VdIn w' S U x aw ds :=
  h.same hb.size (fun b hU => hb.block b (h.us b hU)) (fun i b hS => hb.block b (h.lt i b hS))
theorem VdIn.wide (h : VdIn w S U x aw ds) (h1 : ∀ b, U b → V b) (h2 : ∀ b, V b → b < w.heap.size) (h3 : ∀ i b, S i b → ¬ V b) : VdIn w S V x aw ds :=
  ⟨h.geo, h.right, h.nd, h.n1, h.n2, h.row, h.box, h.dev, h.sz, h.lt, h3, h.apart, h2, h1 _ h.ug, h1 _ h.ul, h1 _ h.ua, h.ne⟩
/-- The new blocks are none of the devices'. -/
theorem VdIn.more (h : VdIn w S U x aw ds) (hb : Below w.heap.size w w') : VdIn w' S (Go.Proofs.YtlpbbjjibnbooaaGreatDoor.more U w w') x aw ds :=
  (h.below hb).wide (fun b hU => .inl hU) (fun b hV => hV.elim (fun hU => Nat.lt_of_lt_of_le (h.us b hU) hb.size) (fun hh => hh.2)) (fun i b hS hV => hV.elim (fun hU => h.fx i b hS hU) (fun hh => by have := h.lt i b hS; omega))
theorem VdIn.narrow (h : VdIn w S V x aw ds) (h1 : ∀ b, U b → V b) (ug : U x.gb) (ul : U x.lb) (ua : U x.ab) : VdIn w S U x aw ds :=
  ⟨h.geo, h.right, h.nd, h.n1, h.n2, h.row, h.box, h.dev, h.sz, h.lt, fun i b hS hU => h.fx i b hS (h1 b hU), h.apart, fun b hU => h.us b (h1 b hU), ug, ul, ua, h.ne⟩
/-- Blocks that are none of the devices' have turned. -/
theorem VdIn.only {T : Nat → Prop} (h : VdIn w S U x aw ds) (ho : Only T w w') (hT : ∀ g, T g → U g ∧ g ≠ x.gb ∧ g ≠ x.lb ∧ g ≠ x.ab) : VdIn w' S U x aw ds :=
  h.same3 ho.size (ho.block _ (h.us _ h.ug) (fun ht => (hT _ ht).2.1 rfl)) (ho.block _ (h.us _ h.ul) (fun ht => (hT _ ht).2.2.1 rfl)) (ho.block _ (h.us _ h.ua) (fun ht => (hT _ ht).2.2.2 rfl)) (fun i b hS => ho.block b (h.lt i b hS) (fun ht => h.fx i b hS (hT b ht).1))
def setS (S : Nat → Nat → Prop) (i : Nat) (T : Nat → Prop) : Nat → Nat → Prop := fun j b => if j = i then T b else S j b
/-- One device has turned. -/
theorem VdIn.step (h : VdIn w S U x aw ds) {i b : Nat} {d : DevD} (hb : x.bd[i]? = some b) (ho : Only (S i) w w') (hd : DevAt w' (Go.Proofs.YtlpbbjjibnbooaaGreatDoor.more (S i) w w') b d) (hl : d.med.length = x.secs) :
    VdIn w' (setS S i (Go.Proofs.YtlpbbjjibnbooaaGreatDoor.more (S i) w w')) U x aw (ds.set i d) := by
  have hu : ∀ b, U b → w'.heap[b]? = w.heap[b]? := fun b hU => ho.block b (h.us b hU) (fun hS => h.fx i b hS hU)
  have hnew : ∀ j b, setS S i (Go.Proofs.YtlpbbjjibnbooaaGreatDoor.more (S i) w w') j b → S j b ∨ (j = i ∧ w.heap.size ≤ b ∧ b < w'.heap.size) := fun j b hj => by
    unfold setS at hj
    split at hj
    · rename_i e; subst e
      rcases hj with hj | hj
      · exact .inl hj
      · exact .inr ⟨rfl, hj⟩
    · exact .inl hj
  refine ⟨h.geo.same ho.size (hu _ h.ug), h.right, h.nd, h.n1, by rw [List.length_set]; exact h.n2, fun j c hc => (cell_same' (hu _ h.ul)).trans (h.row j c hc), (hu _ h.ua).trans h.box, fun j c e hc he => ?_, fun e he => ?_, fun j c hj => ?_, fun j c hj => ?_, fun j k c hj hk => ?_,
    fun c hc => Nat.lt_of_lt_of_le (h.us c hc) ho.size, h.ug, h.ul, h.ua, h.ne⟩
  · unfold setS
    by_cases hji : j = i
    · subst hji
      rw [hb] at hc; cases hc
      rw [List.getElem?_set, if_pos rfl] at he
      split at he
      · cases he
        rw [show (fun b_1 => if j = j then Go.Proofs.YtlpbbjjibnbooaaGreatDoor.more (S j) w w' b_1 else S j b_1) = Go.Proofs.YtlpbbjjibnbooaaGreatDoor.more (S j) w w' from funext fun _ => if_pos rfl]
        exact hd
      · cases he
    · rw [List.getElem?_set, if_neg (fun e => hji e.symm)] at he
      obtain ⟨mb, mcap, cb, g, hh⟩ := h.dev j c e hc he
      rw [show (fun b_1 => if j = i then Go.Proofs.YtlpbbjjibnbooaaGreatDoor.more (S i) w w' b_1 else S j b_1) = S j from funext fun _ => if_neg hji]
      exact ⟨mb, mcap, cb, g, hh.same ho.size (fun b hS => ho.block b (h.lt j b hS) (fun hS2 => hji (h.apart j i b hS hS2)))⟩
  · rcases List.mem_or_eq_of_mem_set he with he | rfl
    · exact h.sz e he
    · exact hl
  · rcases hnew j c hj with hj | ⟨_, _, h3⟩
    · exact Nat.lt_of_lt_of_le (h.lt j c hj) ho.size
    · exact h3
  · rcases hnew j c hj with hj | ⟨_, h2, _⟩
    · exact h.fx j c hj
    · intro hU; have := h.us c hU; omega
  · rcases hnew j c hj with hj | ⟨e1, h2, _⟩
    · rcases hnew k c hk with hk | ⟨e2, h4, _⟩
      · exact h.apart j k c hj hk
      · have := h.lt j c hj; omega
    · rcases hnew k c hk with hk | ⟨e2, h4, _⟩
      · have := h.lt k c hk; omega
      · omega
/-- One is away, or here again. -/
theorem VdIn.away (h : VdIn w S U x aw ds) (i : Nat) (v : Bool) : VdIn (w.setCell ⟨x.ab, i, none⟩ (.bool v)) S U x (aw.set i v) ds := by
  have hne : ∀ b, b ≠ x.ab → (w.setCell ⟨x.ab, i, none⟩ (.bool v)).heap[b]? = w.heap[b]? := fun b hb => Below.heap_setCell w _ _ b hb
  have hsz : (w.setCell ⟨x.ab, i, none⟩ (.bool v)).heap.size = w.heap.size := by simp [World.setCell]
  have hna : ∀ j b, S j b → b ≠ x.ab := fun j b hS e => h.fx j b hS (e ▸ h.ua)
  refine ⟨h.geo.same (by omega) (hne _ h.ne.1), h.right, h.nd, by rw [List.length_set]; exact h.n1, h.n2, fun j c hc => (cell_same' (hne _ h.ne.2)).trans (h.row j c hc), ?_, fun j c e hc he => ?_, h.sz, fun j c hj => by rw [hsz]; exact h.lt j c hj, h.fx, h.apart,
    fun c hc => by rw [hsz]; exact h.us c hc, h.ug, h.ul, h.ua, h.ne⟩
  · have := h.box.put i (.bool v)
    rw [show ((aw.set i v).map Value.bool).toArray = (aw.map Value.bool).toArray.setIfInBounds i (.bool v) by simp [List.map_set]]
    exact this
  · obtain ⟨mb, mcap, cb, g, hh⟩ := h.dev j c e hc he
    exact ⟨mb, mcap, cb, g, hh.same (by omega) (fun b hS => hne b (hna j b hS))⟩
end
/-- A slice in blocks of U. -/
def SlU (w : World) (U : Nat → Prop) (v : Value) (n : Nat) (cs : List Value) : Prop :=
  ∃ A c, v = .slice A n c ∧ n ≤ c ∧ (0 < n → ∃ b o, A = some ⟨b, o, none⟩ ∧ U b ∧ ∀ j u, cs[j]? = some u → w.cell? ⟨b, o + j, none⟩ = some u)
section
variable {w w' : World} {U V : Nat → Prop} {v : Value} {n : Nat} {cs : List Value}
theorem SlU.to (h : SlU w U v n cs) (hU : ∀ b, U b → b < w.heap.size) : SlAt w v n cs := by
  obtain ⟨A, c, h1, hc, h2⟩ := h
  refine ⟨A, c, h1, hc, fun hp => ?_⟩
  obtain ⟨b, o, e1, e2, e3⟩ := h2 hp
  exact ⟨b, o, e1, hU b e2, e3⟩
theorem SlU.cells {A : Option Addr} {c : Nat} (h : SlU w U (.slice A n c) n cs) (hp : 0 < n) : ∃ b o, A = some ⟨b, o, none⟩ ∧ U b ∧ ∀ j u, cs[j]? = some u → w.cell? ⟨b, o + j, none⟩ = some u := by
  obtain ⟨A', c', h1, _, h2⟩ := h
  cases h1
  exact h2 hp
theorem SlU.form (h : SlU w U v n cs) : ∃ A c, v = .slice A n c := by
  obtain ⟨A, c, h1, _⟩ := h
  exact ⟨A, c, h1⟩
theorem SlU.same (h : SlU w U v n cs) (hs : ∀ b, U b → w'.heap[b]? = w.heap[b]?) : SlU w' U v n cs := by
  obtain ⟨A, c, h1, hc, h2⟩ := h
  refine ⟨A, c, h1, hc, fun hp => ?_⟩
  obtain ⟨b, o, e1, e2, e3⟩ := h2 hp
  exact ⟨b, o, e1, e2, fun j u hu => (cell_same' (hs b e2)).trans (e3 j u hu)⟩
theorem SlU.mono (h : SlU w U v n cs) (hs : ∀ b, U b → V b) : SlU w V v n cs := by
  obtain ⟨A, c, h1, hc, h2⟩ := h
  refine ⟨A, c, h1, hc, fun hp => ?_⟩
  obtain ⟨b, o, e1, e2, e3⟩ := h2 hp
  exact ⟨b, o, e1, hs b e2, e3⟩
/-- Blocks of U stay. -/
def Stays (U : Nat → Prop) (w w' : World) : Prop := Only (fun b => ¬ U b) w w'
theorem Stays.eq (h : Stays U w w') (hU : ∀ b, U b → b < w.heap.size) : ∀ b, U b → w'.heap[b]? = w.heap[b]? := fun b hb => h.block b (hU b hb) (fun hn => hn hb)
theorem SlU.stays (h : SlU w U v n cs) (hs : Stays U w w') (hU : ∀ b, U b → b < w.heap.size) : SlU w' U v n cs := h.same (hs.eq hU)
theorem slU_own {base sz : Nat} {t : TypeId} (h : w.ownsRow base t sz v n cs) (hU : ∀ b, base ≤ b → b < w.heap.size → U b) : SlU w U v n cs := by
  obtain ⟨A, c, h1, hc, h2⟩ := slAt_own h
  refine ⟨A, c, h1, hc, fun hp => ?_⟩
  obtain ⟨b, o, e1, e2, e3⟩ := h2 hp
  subst h1; subst e1
  exact ⟨b, o, rfl, hU b (h.lt b (by
    rcases h.2 with ⟨hn, _⟩ | ⟨g, cap, cur, hv, _⟩
    · cases hn
    · cases hv; rfl)).1 e2, e3⟩
theorem Stays.trans {a b c : World} (h : Stays U a b) (k : Stays U b c) : Stays U a c := Only.trans h k (fun _ hi => .inl hi)
theorem Stays.mono {a b : World} (h : Stays V a b) (hs : ∀ b, U b → V b) : Stays U a b := Only.mono h (fun _ _ hn hU => hn (hs _ hU))
theorem stays_below {a b : World} (h : Below a.heap.size a b) : Stays U a b := Only.of_below h
theorem stays_refl (a : World) : Stays U a a := Only.refl _ a
/-- What lies below a bound stays. -/
theorem Stays.below {a b : World} {B : Nat} (h : Stays U a b) (hB : B ≤ a.heap.size) (hU : ∀ i, i < B → U i) : Below B a b := Only.below h hB (fun i hi => by
  by_cases hl : i < B
  · exact absurd (hU i hl) hi
  · omega)
end
end Go.Proofs.YtlpbbjjibnbooaaGreatDoor
