/-
  Contracts of package dev: Flush.
-/
import Derived.Test.YtkaijdnaheikeaaDev5
import Derived.StillTailTactics
namespace Go.Proofs.Ytkaijdnaheikeaa
set_option linter.unusedVariables false
set_option linter.unusedSimpArgs false
open Go.RowKit

namespace DevD
/-- Flushed, but for what is left. -/
def part (d : DevD) (left : Nat → Bool) : DevD := { d with med := d.med.mapIdx fun k s => if left k then s else lastOr (d.cac k) s }
theorem part_len (d : DevD) (left : Nat → Bool) : (d.part left).med.length = d.med.length := by simp [part]
theorem part_start (d : DevD) (left : Nat → Bool) (h : ∀ k, left k = false → d.cac k = []) : d.part left = d := by
  have : (d.med.mapIdx fun k s => if left k then s else lastOr (d.cac k) s) = d.med := by
    refine List.ext_getElem (by simp) fun k h1 h2 => ?_
    simp only [List.getElem_mapIdx]
    by_cases e : left k = true
    · rw [if_pos e]
    · rw [if_neg e, h k (by simpa using e)]; rfl
  unfold part
  rw [this]
theorem part_medAt (d : DevD) (left : Nat → Bool) (k : Nat) (hk : k < d.med.length) (hl : left k = true) : (d.part left).medAt k = d.medAt k := by
  unfold part medAt
  simp [List.getD_eq_getElem?_getD, List.getElem?_mapIdx, List.getElem?_eq_getElem hk, hl]
theorem part_step (d : DevD) (left : Nat → Bool) (k : Nat) (hk : k < d.med.length) (hc : d.cac k ≠ []) :
    ({ d.part left with med := (d.part left).med.set k ((d.part left).now k) } : DevD) = d.part (fun j => left j && j != k) := by
  have hn : (d.part left).now k = lastOr (d.cac k) (d.med[k]) := by
    unfold now lastOr
    show ((d.cac k).getLast?).getD _ = _
    cases h : (d.cac k).getLast? with
    | none => exact absurd (List.getLast?_eq_none_iff.1 h) hc
    | some x => rfl
  unfold part at *
  simp only [DevD.mk.injEq, true_and, and_true]
  rw [hn]
  refine List.ext_getElem (by simp) fun j h1 h2 => ?_
  simp only [List.getElem_mapIdx, List.getElem_set]
  by_cases e : k = j
  · subst e; simp
  · have e' : (j != k) = true := by simpa using fun h => e h.symm
    rw [if_neg e]
    simp only [e', Bool.and_true]
theorem part_end (d : DevD) (left : Nat → Bool) (h : ∀ k, k < d.med.length → left k = false) : ({ d.part left with cac := fun _ => [] } : DevD) = d.settled := by
  unfold part settled
  simp only [DevD.mk.injEq, and_true]
  refine List.ext_getElem (by simp) fun k h1 h2 => ?_
  simp only [List.getElem_mapIdx]
  rw [h k (by simpa using h1)]; rfl
end DevD

set_option maxRecDepth 20000 in
theorem flush_ok {w : World} {S : Nat → Prop} {bd : Nat} {d : DevD} (h : DevAt w S bd d) (hlo : d.lost = false) (hf : d.fuse ≠ 0) (ok : d.Ok) : Calls Try.prog 14 #[.pointer (some ⟨bd, 0, none⟩)] w fun e w' =>
    e = .returned (.int .i64 0) ∧ DevAt w' S bd d.burn.settled ∧ Only S w w' := by
  have HL := Lib.hid (lost_any h)
  rw [hlo] at HL
  have HB := Lib.hid (burnt_no h hf ok.f1 ok.f2)
  have HLT := Lib.hid h.lts
  have few := ok.few
  clear h hlo hf ok
  go_enter Try.func14, Try.ntmps14
  go_wp2_with fail
  refine HL.out.mono ?_
  rintro e w1 ⟨rfl, rfl⟩
  go_wp2_with fail
  refine HB.out.mono ?_
  rintro e w1 ⟨rfl, h2, hO, hz⟩
  obtain ⟨mb, mcap, cb, g, h2⟩ := h2
  obtain ⟨c0, c1, c2, c3⟩ := h2.cells
  have HO := Lib.hid hO
  have HZ := Lib.hid hz
  have HM := Lib.hid h2.map
  have H2 := Lib.hid h2
  have hb0 : d.burn.med.length = d.med.length := rfl
  rw [hb0] at c0
  clear h2 hO hz hb0
  go_wp2_with (at_range; refine wpList_map_range rfl _ 51 rfl 3 49 Try.underlying3 Try.underlying51 cb _ g rfl HM.out ?_; intro w2 cnt hran hg2 hs2)
  have h3 := H2.out.same (w' := w2) (by omega) (fun i hi => hg2.block i (H2.out.lt i hi) (by simp))
  have HR := Lib.hid hran
  have HG2 := Lib.hid hg2
  have HS2 := Lib.hid hs2
  have H3 := Lib.hid h3
  clear hran hg2 hs2 h3 c0 c1 c2 c3
  go_frame
  go_loopw [3] (fun _ wr => ∃ (left : Int → Bool) (cnt : Nat), RanAt Try.prog 3 wr cb w1.heap.size d.burn.med.length g left cnt ∧ DevIn wr S bd (d.burn.part fun k => left k) mb mcap cb g ∧ (∀ k : Nat, d.med.length ≤ k → left k = false) ∧ Only S w1 wr ∧ w1.heap.size + 1 ≤ wr.heap.size)
    (fun _ wr => wr.rangeLeft cb w1.heap.size)
  case atStart =>
    refine ⟨_, cnt, HR.out, ?_, fun k hk => ?_, Only.of_grown' HG2.out (fun b e => by cases e), by have := HS2.out; omega⟩
    · rw [DevD.part_start]
      · exact H3.out
      · intro k hk
        exact H2.out.none_ k (by simpa using hk)
    · cases hg : g k with
      | none => rfl
      | some v => have := H2.out.keys k (by rw [hg]; rfl); simp only [DevD.burn] at this; omega
  case round =>
    obtain ⟨left, cnt1, hran, hin, hout, hon, hsz⟩ := hrel
    have HLE : Hid (wr.rangeLeft cb w1.heap.size = cnt1) := Lib.hid hran.left_eq
    have HIN := Lib.hid hin
    have HOUT := Lib.hid hout
    have HON := Lib.hid hon
    have HSZ := Lib.hid hsz
    have HRAN := Lib.hid hran
    clear hran hin hout hon hsz
    go_wp2_with (at_next; refine wpList_map_next rfl _ rfl 3 Try.underlying3 cb w1.heap.size _ g left cnt1 rfl HRAN.out ?_ ?_)
    · intro hdone
      have hfin := HIN.out
      have hcl := (hfin.map).clear (t := 51) (ty := 0) Try.underlying51
      obtain ⟨w5, hrun, hm5, hg5, hs5⟩ := hcl
      have H5 := Lib.hid (hfin.cleared hm5 hg5 hs5)
      have HO5 : Hid (Only S wr w5) := Lib.hid (Only.of_grown hg5 hfin.sc)
      obtain ⟨c0, c1, c2, c3⟩ := hfin.cells
      have HD := Lib.hid hdone
      have few2 : Hid (d.med.length ≤ 4096) := Lib.hid few
      clear hfin hm5 hg5 hs5 hdone few c0 c2 c3
      go_wp2_with fail
      go_ret
      refine ⟨rfl, ⟨mb, mcap, cb, fun _ => none, ?_⟩, (HO.out.trans HON.out (fun _ h => .inl h)).trans HO5.out (fun _ h => .inl h)⟩
      rw [← DevD.part_end d.burn (fun k => left k) (fun k hk => HD.out k (wfz_in (by omega) (by have := few2.out; simp only [DevD.burn] at hk; omega)))]
      exact H5.out
    · intro x v w3 cnt2 hwx hlx hgx hran3 hlt hg3 hs3 hen
      have hk := HIN.out.keys x (by rw [hgx]; rfl)
      rw [DevD.part_len] at hk
      obtain ⟨k, rfl⟩ := Int.eq_ofNat_of_zero_le hk.1
      have hlts := HLT.out
      have h4 := HIN.out.same (w' := w3) (by omega) (fun i hi => hg3.block i (HIN.out.lt i hi) (fun e => by cases e; have := H2.out.lt _ hi; omega))
      have hat : DevAt w3 S bd (d.burn.part fun k => left k) := ⟨mb, mcap, cb, g, h4⟩
      have hk2 : k < d.med.length := by have := hk.2; simp only [DevD.burn] at this; omega
      have HN : Hid (Calls Try.prog 27 #[.pointer (some ⟨bd, 0, none⟩), .int .i64 k] w3.drew fun e w' => e = .returned (str ((d.burn.part fun k => left k).now k)) ∧ w' = w3.drew) :=
        Lib.hid ((now_any hat.drew k (by rw [DevD.part_len]; exact hk2) (by rw [DevD.part_len]; exact few)).mono fun e w' h => ⟨h.1, h.2.symm⟩)
      obtain ⟨c0, c1, c2, c3⟩ := h4.cells
      rw [DevD.part_len] at c0
      have hb0 : d.burn.med.length = d.med.length := rfl
      rw [hb0] at c0
      have hfz := (h4.med_at (k := k) (by rw [DevD.part_len]; exact hk2)).2
      obtain ⟨cm, _⟩ := h4.med_at (k := k) (by rw [DevD.part_len]; exact hk2)
      have H4 := Lib.hid h4
      have HX := Lib.hid hgx
      have HLX := Lib.hid hlx
      have HRAN3 := Lib.hid hran3
      have HG3 := Lib.hid hg3
      have HS3 := Lib.hid hs3
      have HLTC := Lib.hid hlt
      have HK2 := Lib.hid hk2
      have HHK := Lib.hid hk
      have HLTS := Lib.hid hlts
      generalize hv : (d.burn.part fun k => left k).now k = nv at *
      have HNV := Lib.hid hv
      clear hat h4 hgx hlx hran3 hg3 hs3 hlt hlts hk hb0 c1 c2 c3 hv
      repeat' (first
        | go_values
        | go_skip
        | go_guarded
        | ((fail_if_success (with_reducible refine drawn_mark ?_))
           first
             | go_step
             | go_upon
             | go_back
             | (simp only [Int.not_lt, Int.not_le] at *; go_simp)
             | (go_values <;> (try go_simp))
             | (go_ite <;> go_prune <;> (try go_simp))
             | (split <;> (first | (rename_i hx; exact (hx _ rfl).elim) | go_prune))))
      refine wp_region_still_tail 9 (by kernel_rfl) (by kernel_rfl) ?_
      simp only [List.take_succ_cons, List.take_zero, List.drop_succ_cons, List.drop_zero]
      repeat still_step
      still_call HN.out
      repeat still_step
      try refine wpStill_nil ?_
      change wpList _ _ _ _ _ w3.drew
      have hfz2 : w3.drew.frozen? ⟨mb, k, none⟩ = false := hfz
      have cm2 : w3.drew.cell? ⟨mb, k, none⟩ = some (str ((d.burn.part fun k => left k).medAt k)) := cm
      clear hfz cm c0
      go_wp2_with fail
      have hmcb := H4.out.nes
      have hrlt := HRAN3.out.lt
      have hrm : w1.heap.size ≠ mb := by have := H2.out.lt mb H2.out.sm; omega
      have hblk : ∀ i, i ≠ mb → (w3.setCell ⟨mb, k, none⟩ (str nv)).drew.heap[i]? = w3.heap[i]? := fun i hi => Below.heap_setCell w3 ⟨mb, k, none⟩ _ i hi
      have hran5 := HRAN3.out.kept (w' := (w3.setCell ⟨mb, k, none⟩ (str nv)).drew) (hblk cb hmcb.2.2) (hblk _ hrm)
      have hszd : (w3.setCell ⟨mb, k, none⟩ (str nv)).drew.heap.size = w3.heap.size := by show (w3.setCell ⟨mb, k, none⟩ (str nv)).heap.size = _; simp [World.setCell]
      have hlc := HLTC.out
      have hle := HLE.out
      have hl5 := hran5.left_eq
      have hcac : d.burn.cac k ≠ [] := (H4.out.rows k v HX.out).1
      go_roundw
      case rel =>
        refine ⟨fun z => left z && z != (k : Int), cnt2, hran5, ?_, fun j hj => by show (left j && _) = false; rw [HOUT.out j hj]; rfl, ?_, ?_⟩
        · have h6 := (H4.out.med_set (k := k) (by rw [DevD.part_len]; exact HK2.out) nv).same (w' := (w3.setCell ⟨mb, k, none⟩ (str nv)).drew) (Nat.le_refl _) (fun _ _ => rfl)
          have e : (fun j : Nat => (fun k : Nat => left k) j && j != k) = fun j : Nat => (left j && (j : Int) != (k : Int)) := by
            funext j
            have : (j != k) = ((j : Int) != (k : Int)) := by
              by_cases e : j = k
              · subst e; simp
              · have e2 : ¬ (j : Int) = k := by omega
                rw [show (j != k) = true from by simpa using e, show ((j : Int) != (k : Int)) = true from by simpa using e2]
            rw [this]
          have e0 := DevD.part_step d.burn (fun k => left k) k HK2.out hcac
          rw [HNV.out, e] at e0
          show DevIn _ S bd (d.burn.part fun j : Nat => (left j && (j : Int) != (k : Int))) mb mcap cb g
          rw [← e0]
          exact h6
        · have hA : Only S w1 w3 := HON.out.trans (Only.of_grown (S := fun i => i = w1.heap.size) HG3.out rfl) (fun i hi => .inr (by omega))
          exact (hA.set (.inl H2.out.sm) _).drew
        · show w1.heap.size + 1 ≤ (w3.setCell ⟨mb, k, none⟩ (str nv)).drew.heap.size
          rw [hszd]
          have := HS3.out; have := HSZ.out; omega
      case measure =>
        show (w3.setCell ⟨mb, k, none⟩ (str nv)).drew.rangeLeft cb w1.heap.size < wr.rangeLeft cb w1.heap.size
        rw [hl5, hle]; exact hlc

theorem flush_any {w : World} {S : Nat → Prop} {bd : Nat} {d : DevD} (h : DevAt w S bd d) (ok : d.Ok) : Calls Try.prog 14 #[.pointer (some ⟨bd, 0, none⟩)] w fun e w' =>
    e = .returned (.int .i64 d.flE) ∧ DevAt w' S bd d.fl ∧ Only S w w' := by
  have HE : Hid (d.flE = if d.lost = true ∨ d.fuse = 0 then 6 else 0) := Lib.hid rfl
  have HF : Hid (d.fl = if d.flE = 0 then d.burn.settled else d) := Lib.hid rfl
  have HL := Lib.hid (lost_any h)
  have HD := Lib.hid h
  cases hlo : d.lost with
  | true =>
    have h1 : d.flE = 6 := by rw [HE.out, if_pos (.inl hlo)]
    rw [HF.out, if_neg (by omega), h1]
    rw [hlo] at HL
    clear h1 hlo h HE ok
    go_enter Try.func14, Try.ntmps14
    go_wp2_with fail
    refine HL.out.mono ?_
    rintro e w1 ⟨rfl, rfl⟩
    go_wp2_with fail
    go_ret
    exact ⟨rfl, HD.out, Only.refl _ _⟩
  | false =>
    by_cases hf : d.fuse = 0
    · have h1 : d.flE = 6 := by rw [HE.out, if_pos (.inr hf)]
      rw [HF.out, if_neg (by omega), h1]
      have HB := Lib.hid (burnt_yes h hf)
      rw [hlo] at HL
      clear h1 hlo h HE ok hf
      go_enter Try.func14, Try.ntmps14
      go_wp2_with fail
      refine HL.out.mono ?_
      rintro e w1 ⟨rfl, rfl⟩
      go_wp2_with fail
      refine HB.out.mono ?_
      rintro e w1 ⟨rfl, rfl⟩
      go_wp2_with fail
      go_ret
      exact ⟨rfl, HD.out, Only.refl _ _⟩
    · have h1 : d.flE = 0 := by
        rw [HE.out, if_neg]
        rintro (h | h)
        · rw [hlo] at h; cases h
        · exact hf h
      rw [HF.out, if_pos h1, h1]
      exact flush_ok h hlo hf ok
theorem flush_nil (w : World) : Calls Try.prog 14 #[.pointer none] w fun e w' => e = .returned (.int .i64 6) ∧ w = w' := by
  go_enter Try.func14, Try.ntmps14
  go_wp2_with fail
  refine (lost_nil _).mono ?_
  rintro e w1 ⟨rfl, rfl⟩
  go_wp2_with fail
  go_ret
  exact ⟨rfl, rfl⟩
end Go.Proofs.Ytkaijdnaheikeaa
