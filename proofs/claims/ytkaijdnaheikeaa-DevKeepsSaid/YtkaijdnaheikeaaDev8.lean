/-
  Contracts of package dev: Crash.
-/
import Derived.Test.YtkaijdnaheikeaaDev7
namespace Go.Proofs.Ytkaijdnaheikeaa
set_option linter.unusedVariables false
set_option linter.unusedSimpArgs false
open Go.RowKit

/-- An argument that is a list of numbers, outside the blocks of S. -/
def KeepAt (w : World) (S : Nat → Prop) (v : Value) (l : List Int) : Prop :=
  ∃ A c, v = .slice A l.length c ∧ i64s l ∧ l.length ≤ 1000000 ∧ (0 < l.length → ∃ b o, A = some ⟨b, o, none⟩ ∧ ¬ S b ∧ b < w.heap.size ∧ ∀ i x, l[i]? = some x → w.cell? ⟨b, o + i, none⟩ = some (.int .i64 x))
theorem cell_same {w w' : World} {b o : Nat} (h : w'.heap[b]? = w.heap[b]?) : w'.cell? ⟨b, o, none⟩ = w.cell? ⟨b, o, none⟩ := by simp only [World.cell?, h]
theorem KeepAt.only {w w' : World} {S : Nat → Prop} {v : Value} {l : List Int} (h : KeepAt w S v l) (ho : Only S w w') : KeepAt w' S v l := by
  obtain ⟨A, c, h1, h2, h3, h4⟩ := h
  refine ⟨A, c, h1, h2, h3, fun hp => ?_⟩
  obtain ⟨b, o, h5, h6, h7, h8⟩ := h4 hp
  exact ⟨b, o, h5, h6, Nat.lt_of_lt_of_le h7 ho.size, fun i x hx => (cell_same (ho.block b h7 h6)).trans (h8 i x hx)⟩
theorem keepAt_nil (w : World) (S : Nat → Prop) : KeepAt w S (.slice none 0 0) [] := by
  refine ⟨none, 0, rfl, ?_, Nat.zero_le _, ?_⟩
  · intro x h; cases h
  · intro h; exact absurd h (Nat.lt_irrefl 0)

theorem wraps4 {m : Int} {n : Nat} (h1 : -(n : Int) ≤ m) (h2 : m ≤ n) (hn : n ≤ 1000000) : wrap64 ((n : Int) + 1) = n + 1 ∧ wrap64 (m + (n : Int)) = m + n ∧ wrap64 (m + (n : Int) + 1) = m + n + 1 ∧ ¬ ((n : Int) + 1 = 0) :=
  ⟨IntWalk.wrap64_in _ (by omega), IntWalk.wrap64_in _ (by omega), IntWalk.wrap64_in _ (by omega), by omega⟩
theorem wraps1 {j : Nat} (hn : j ≤ 1000000) : wrap64 ((j : Int) + 1 - 1) = j := by rw [IntWalk.wrap64_in _ (by omega)]; omega
theorem wraps2 {j : Nat} (hn : j ≤ 1000000) : IntKind.i64.wrap (j : Int) = j := (IntWalk.i64_left j).trans (IntWalk.wrap64_in _ (by omega))
theorem is_succ {r : Int} {n : Nat} (h0 : ¬ r = 0) (h1 : 0 ≤ r) (h2 : r ≤ n) : ∃ j : Nat, r = (j : Int) + 1 ∧ j < n := ⟨(r - 1).toNat, by omega, by omega⟩
theorem toNat_succ (j : Nat) : ((j : Int) + 1).toNat = j + 1 := by omega

set_option maxRecDepth 20000 in
theorem crash_ok {w : World} {S : Nat → Prop} {bd : Nat} {d : DevD} (h : DevAt w S bd d) (hlo : d.lost = false) (ok : d.Ok) (hv : ∀ k, (d.cac k).length ≤ 1000000) {kv : Value} {keep : List Int} (hk : KeepAt w S kv keep) :
    Calls Try.prog 16 #[.pointer (some ⟨bd, 0, none⟩), kv] w fun e w' => e = .returned (.tuple #[]) ∧ DevAt w' S bd (d.crash keep) ∧ Only S w w' := by
  have HL := Lib.hid (lost_any h)
  rw [hlo] at HL
  have HLT := Lib.hid h.lts
  have few := ok.few
  have HCE := Lib.hid (fun i => DevD.crash_eq d keep hlo (i := i))
  have HKEEP := Lib.hid hk
  obtain ⟨A, kc, rfl, hk64, hkl, hkc⟩ := hk
  obtain ⟨mb, mcap, cb, g, h⟩ := h
  obtain ⟨c0, c1, c2, c3⟩ := h.cells
  have hz : w.frozen? ⟨bd, 3, none⟩ = false := h.box.fr 3
  have h2 := h.box_set 3 (.int .i64 (-1)) (l := d.lost) (f := -1) rfl
  have HO : Hid (Only S w (w.setCell ⟨bd, 3, none⟩ (.int .i64 (-1)))) := Lib.hid ((Only.refl S w).set (.inl h.sd) _)
  have HC := Lib.hid (cached_any (w := w.setCell ⟨bd, 3, none⟩ (.int .i64 (-1))) ⟨mb, mcap, cb, g, h2⟩ few)
  have H2 := Lib.hid h2
  have H64 := Lib.hid hk64
  have HKC := Lib.hid hkc
  have HOK := Lib.hid ok
  have HV := Lib.hid hv
  have HFEW := Lib.hid few
  clear hlo h2 h ok hv hk64 hkc few c0 c1 c2
  go_enter Try.func16, Try.ntmps16
  go_wp2_with fail
  refine HL.out.mono ?_
  rintro e w1 ⟨rfl, rfl⟩
  go_wp2_with fail
  refine HC.out.mono ?_
  rintro e w2 ⟨v, rfl, hrow, hb2⟩
  have hkeys : (DevD.mk d.med d.cac d.lost (-1)).keys = d.keys := rfl
  rw [hkeys] at hrow
  have hnl : ∃ A2 cap2, v = .slice A2 d.keys.length cap2 := by
    rcases hrow.2 with ⟨rfl, h0⟩ | ⟨b, cap, cur, rfl, _⟩
    · exact ⟨none, 0, by rw [h0]⟩
    · exact ⟨_, _, rfl⟩
  obtain ⟨A2, cap2, rfl⟩ := hnl
  have hs2 : (w.setCell ⟨bd, 3, none⟩ (.int .i64 (-1))).heap.size = w.heap.size := by simp [World.setCell]
  have hin2 := H2.out.same hb2.size (fun i hi => hb2.block i (H2.out.lt i hi))
  have hon2 : Only S w w2 := HO.out.then_below hb2
  have HROW := Lib.hid hrow
  have HIN2 := Lib.hid hin2
  have HON2 := Lib.hid hon2
  have HB2 := Lib.hid hb2
  have HS2 := Lib.hid hs2
  clear hrow hin2 hon2 hb2 hkeys hs2
  go_wp2_with fail
  go_loopw [4, 5, 6, 7, 16] (fun _ _ _ _ t wr => ∃ i : Nat, i ≤ d.keys.length ∧ t = .int .i64 i ∧ DevIn wr S bd (d.crashed keep i) mb mcap cb g ∧ Only S w2 wr) (fun _ _ _ _ t _ => d.keys.length - (intOf t).toNat)
  case atStart =>
    refine ⟨0, Nat.zero_le _, rfl, ?_, Only.refl _ _⟩
    have e : d.crashed keep 0 = ⟨d.med, d.cac, d.lost, -1⟩ := by unfold DevD.crashed; rw [DevD.crashMed_zero]
    rw [e]
    exact HIN2.out
  case round =>
    obtain ⟨i, hi, rfl, hin, hon⟩ := hrel
    have hcl := (hin.map).clear (t := 51) (ty := 0) Try.underlying51
    obtain ⟨w5, hrun, hm5, hg5, hs5⟩ := hcl
    have H5 := Lib.hid (hin.cleared hm5 hg5 hs5)
    have HO5 : Hid (Only S wr w5) := Lib.hid (Only.of_grown hg5 hin.sc)
    obtain ⟨c0, c1, c2, c3⟩ := hin.cells
    have HIN := Lib.hid hin
    have HON := Lib.hid hon
    have hkl2 := (hasL_len d.pre d.med.length)
    have few := HFEW.out
    have hkl3 : d.keys.length ≤ 4096 := Nat.le_trans hkl2 few
    clear hm5 hg5 hs5 hin hon hkl2
    by_cases hlt : i < d.keys.length
    · obtain ⟨k, hk⟩ : ∃ k, d.keys[i]? = some k := ⟨_, List.getElem?_eq_getElem hlt⟩
      obtain ⟨hcac, hkm, hrk⟩ := DevD.keys_at hk
      have hdc : decide (i < d.keys.length) = true := decide_eq_true hlt
      have hform : ∃ gv, A2 = some ⟨gv, 0, none⟩ := by
        rcases HROW.out.2 with ⟨_, h0⟩ | ⟨b, cap, cur, he, _⟩
        · omega
        · cases he; exact ⟨b, rfl⟩
      obtain ⟨gv, rfl⟩ := hform
      obtain ⟨ck, _⟩ := ownsRow_cell HROW.out (j := i) (u := .int .i64 k) (by rw [List.getElem?_map, hk]; rfl)
      have hlr := HROW.out.lt gv rfl
      have hs2 := HS2.out
      have hgS : ¬ S gv := fun hS => by have := HLT.out gv hS; omega
      have ck2 : wr.cell? ⟨gv, i, none⟩ = some (.int .i64 k) := (cell_same (HON.out.block gv hlr.2 hgS)).trans ck
      obtain ⟨v, hgv⟩ : ∃ v, g (k : Int) = some v := by
        cases hg : g (k : Int) with
        | none => exact absurd (HIN.out.none_ k hg) hcac
        | some v => exact ⟨v, rfl⟩
      obtain ⟨_, hvr⟩ := HIN.out.rows k v hgv
      have hlk := HIN.out.map.look (k := k) (t := 51) Try.underlying3 Try.underlying51 (zero_strs wr) (wfz_in (by omega) (by omega))
      rw [hgv] at hlk
      simp only [Option.getD_some] at hlk
      have hcd : (d.crashed keep i).cac k = d.cac k := rfl
      rw [hcd] at hvr
      have hpos : 0 < (d.cac k).length := List.length_pos_iff.2 hcac
      obtain ⟨cv, cap3, rfl, _, _⟩ := hvr.form (by omega)
      have HVR := Lib.hid hvr
      have HGV := Lib.hid hgv
      have HKK := Lib.hid hk
      have HKM := Lib.hid hkm
      have HCAC := Lib.hid hcac
      have HRK := Lib.hid hrk
      have HPOS := Lib.hid hpos
      have HI := Lib.hid hlt
      clear hlr hs2 hgS ck hgv hvr hk hkm hcac hrk hcd hpos hlt hi
      by_cases hik : keep.length ≤ i
      · have HIK := Lib.hid hik
        have hdk : decide (keep.length ≤ i) = true := decide_eq_true hik
        clear hik
        go_wp2_with fail
        go_end0
        refine ⟨rfl, ⟨mb, mcap, cb, fun _ => none, ?_⟩, (HON2.out.trans HON.out (fun _ h => .inl h)).trans HO5.out (fun _ h => .inl h)⟩
        rw [HCE.out i (.inl HIK.out)]
        exact H5.out
      · have hil : i < keep.length := by omega
        have hdk : decide (keep.length ≤ i) = false := decide_eq_false hik
        obtain ⟨kb, ko, rfl, hkS, hkb, hkcell⟩ := HKC.out (by omega)
        obtain ⟨x, hx⟩ : ∃ x, keep[i]? = some x := ⟨_, List.getElem?_eq_getElem hil⟩
        have hx64 := H64.out x (List.mem_of_getElem? hx)
        have kc0 := hkcell i x hx
        have kc1 : wr.cell? ⟨kb, ko + i, none⟩ = some (.int .i64 x) := by
          have h1 := cell_same (o := ko + i) (HON2.out.block kb hkb hkS)
          have h2 := cell_same (o := ko + i) (HON.out.block kb (Nat.lt_of_lt_of_le hkb HON2.out.size) hkS)
          exact (h2.trans h1).trans kc0
        have hnv := HV.out k
        obtain ⟨s1, s2, s3, s4⟩ := vers_steps hx64 hnv
        have hvers : DevD.vers x (d.cac k).length = ((x.tmod ((d.cac k).length + 1) + (d.cac k).length + 1).tmod ((d.cac k).length + 1)).toNat := rfl
        have HVERS := Lib.hid hvers
        have HX := Lib.hid hx
        have HIL := Lib.hid hil
        obtain ⟨n, hn⟩ : ∃ n, (d.cac k).length = n := ⟨_, rfl⟩
        have HN := Lib.hid hn
        rw [hn] at s1 s2 s3 s4 hnv
        obtain ⟨m, hm⟩ : ∃ m, x.tmod ((n : Int) + 1) = m := ⟨_, rfl⟩
        rw [hm] at s1 s2 s3 s4
        obtain ⟨r, hr⟩ : ∃ r, (m + (n : Int) + 1).tmod ((n : Int) + 1) = r := ⟨_, rfl⟩
        rw [hr] at s3 s4
        obtain ⟨q1, q3, q4, q0⟩ := wraps4 s1 s2 hnv
        have HM := Lib.hid hm
        have HR := Lib.hid hr
        have hpick : Hid (DevD.pick keep i (d.cac k) (d.med.getD k []) = if 0 < r.toNat then (d.cac k).getD (r.toNat - 1) [] else d.med.getD k []) := Lib.hid (by
          have e : DevD.vers x (d.cac k).length = r.toNat := by rw [HVERS.out, HN.out, HM.out, HR.out]
          unfold DevD.pick
          rw [HX.out]
          simp only [e])
        have HNV := Lib.hid hnv
        clear hvers hx hil hkcell hx64 kc0 hnv hkS hkb hik
        rw [hn] at hlk
        clear hn
        by_cases hr0 : r = 0
        · subst hr0
          have HSAME : Hid (d.crashed keep (i + 1) = d.crashed keep i) := Lib.hid (DevD.crashed_same d keep HKK.out (by rw [hpick.out]; rfl))
          go_wp2_with fail
          go_roundw
          case rel =>
            refine ⟨i + 1, HI.out, by go_num, ?_, HON.out⟩
            rw [HSAME.out]; exact HIN.out
          case measure => have := HI.out; simp [intOf]; omega
        · obtain ⟨j, rfl, hjn⟩ := is_succ hr0 s3 s4
          have HSET := Lib.hid (DevD.crashed_set d keep HKK.out)
          obtain ⟨tx, htx⟩ : ∃ tx, (d.cac k)[j]? = some tx := ⟨_, List.getElem?_eq_getElem (by rw [HN.out]; exact hjn)⟩
          have hpk : DevD.pick keep i (d.cac k) (d.med.getD k []) = tx := by
            rw [hpick.out, toNat_succ, if_pos (Nat.succ_pos j), Nat.add_sub_cancel, List.getD_eq_getElem?_getD, htx]; rfl
          obtain ⟨cl, _⟩ := ownsRow_cell HVR.out (j := j) (u := str tx) (by rw [List.getElem?_map, htx]; rfl)
          have hkml : k < (d.crashed keep i).med.length := by rw [DevD.crashed_len]; exact HKM.out
          have hfz := (HIN.out.med_at hkml).2
          obtain ⟨cm, _⟩ := HIN.out.med_at hkml
          rw [DevD.crashed_len] at c0
          have H7 := Lib.hid (HIN.out.med_set hkml tx)
          have HPK := Lib.hid hpk
          have q6 : wrap64 ((j : Int) + 1 - 1) = j := wraps1 (Nat.le_trans (Nat.le_of_lt hjn) HNV.out)
          have q7 : IntKind.i64.wrap (j : Int) = j := wraps2 (Nat.le_trans (Nat.le_of_lt hjn) HNV.out)
          have hkm2 := HKM.out
          have HKML := Lib.hid hkml
          clear hpk hkml hr0 htx
          repeat' (first
            | go_values
            | go_skip
            | go_guarded
            | ((fail_if_success (with_reducible refine drawn_mark ?_))
               first
                 | go_step
                 | go_upon
                 | go_back
                 | (simp only [Int.not_lt, Int.not_le] at *; go_simp)
                 | (go_values <;> (try go_simp))
                 | (go_ite <;> go_prune <;> (try go_simp))
                 | (split <;> (first | (rename_i hx; exact (hx _ rfl).elim) | go_prune))))
          refine wp_region_still_tail 11 (by kernel_rfl) (by kernel_rfl) ?_
          simp only [List.take_succ_cons, List.take_zero, List.drop_succ_cons, List.drop_zero]
          repeat still_step
          try refine wpStill_nil ?_
          change wpList _ _ _ _ _ wr.drew
          have hfz2 : wr.drew.frozen? ⟨mb, k, none⟩ = false := hfz
          have cm2 : wr.drew.cell? ⟨mb, k, none⟩ = some (str ((d.crashed keep i).medAt k)) := cm
          clear hfz cm
          go_wp2_with fail
          go_roundw
          case rel =>
            refine ⟨i + 1, HI.out, by go_num, ?_, (HON.out.set (.inl HIN.out.sm) _).drew⟩
            rw [HSET.out, HPK.out]
            exact H7.out.same (Nat.le_refl _) (fun _ _ => rfl)
          case measure => have := HI.out; simp [intOf]; omega
    · have hei : d.keys.length ≤ i := by omega
      have HEI := Lib.hid hei
      have hdc : decide (i < d.keys.length) = false := decide_eq_false (by omega)
      clear hlt hei hi few
      go_wp2_with fail
      go_end0
      refine ⟨rfl, ⟨mb, mcap, cb, fun _ => none, ?_⟩, (HON2.out.trans HON.out (fun _ h => .inl h)).trans HO5.out (fun _ h => .inl h)⟩
      rw [HCE.out i (.inr HEI.out)]
      exact H5.out

theorem crash_any {w : World} {S : Nat → Prop} {bd : Nat} {d : DevD} (h : DevAt w S bd d) (ok : d.Ok) (hv : ∀ k, (d.cac k).length ≤ 1000000) {kv : Value} {keep : List Int} (hk : KeepAt w S kv keep) :
    Calls Try.prog 16 #[.pointer (some ⟨bd, 0, none⟩), kv] w fun e w' => e = .returned (.tuple #[]) ∧ DevAt w' S bd (d.crash keep) ∧ Only S w w' := by
  cases hlo : d.lost with
  | false => exact crash_ok h hlo ok hv hk
  | true =>
    have hd : d.crash keep = d := by unfold DevD.crash; rw [hlo]; rfl
    rw [hd]
    have HL := Lib.hid (lost_any h)
    rw [hlo] at HL
    have HD := Lib.hid h
    clear h hk hd hlo ok hv
    go_enter Try.func16, Try.ntmps16
    go_wp2_with fail
    refine HL.out.mono ?_
    rintro e w1 ⟨rfl, rfl⟩
    go_wp2_with fail
    (try simp only [Exit.inBlock, Exit.then])
    refine bodyPost_ret (results_none rfl _ _ _) rfl ?_
    exact ⟨rfl, HD.out, Only.refl _ _⟩
theorem crash_nil (kv : Value) (w : World) : Calls Try.prog 16 #[.pointer none, kv] w fun e w' => e = .returned (.tuple #[]) ∧ w = w' := by
  go_enter Try.func16, Try.ntmps16
  go_wp2_with fail
  refine (lost_nil _).mono ?_
  rintro e w1 ⟨rfl, rfl⟩
  go_wp2_with fail
  (try simp only [Exit.inBlock, Exit.then])
  refine bodyPost_ret (results_none rfl _ _ _) rfl ?_
  exact ⟨rfl, rfl⟩
end Go.Proofs.Ytkaijdnaheikeaa
