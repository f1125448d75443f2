/-
  What an uberblock's bytes are read as: plain law.
  Uberblocks written one behind the other: plain law.
  A byte of an uberblock spoilt is told: plain law.
  Contracts of polderref05: whether a measure is right, what a block takes.
  Contracts of polderref06: First, May.
-/
import Derived.Test.YtlpbbjjibnbooaaGreatDoorJ22
import Derived.Test.YtlpbbjjibnbooaaGreatDoorJ05
import Derived.Test.YtlpbbjjibnbooaaGreatDoorJ01
import Derived.Test.YtlpbbjjibnbooaaGreatDoorJ06
namespace Go.Proofs.YtlpbbjjibnbooaaGreatDoor
set_option linter.unusedVariables false
set_option linter.unusedSimpArgs false
open Go.RowKit

theorem allZ_rep' (n : Nat) : allZ (List.replicate n 0) = true := by simp [allZ]
theorem sum4_eq (x : Nat × Nat × Nat × Nat) : sum4 x = layL x.1 8 ++ (layL x.2.1 8 ++ (layL x.2.2.1 8 ++ layL x.2.2.2 8)) := by simp [sum4, sumL]
theorem ubH_eq {gs : List (Int × Int)} {secs t n : Int} {p : PtrD} (h : nodeOk n p = true) (op : p.Ok) : ubH gs secs t n p = magicL ++ (layL t.toNat 8 ++ (layL (fsum (gbL gs secs)).1 8 ++ (layL (fsum (gbL gs secs)).2.1 8 ++ (layL (fsum (gbL gs secs)).2.2.1 8 ++ (layL (fsum (gbL gs secs)).2.2.2 8 ++ (nodeL n p ++ List.replicate 48 0)))))) := by
  have hl : (magicL ++ layL t.toNat 8 ++ sum4 (fsum (gbL gs secs)) ++ nodeL n p).length = 176 := by rw [List.length_append, List.length_append, List.length_append, layL_len, sum4_len, nodeL_len h op]; rfl
  unfold ubH padL
  rw [if_pos (by decide), hl, sum4_eq]
  simp only [List.append_assoc]
  rfl
theorem ubH_read {gs : List (Int × Int)} {secs t n : Int} {p : PtrD} (h : nodeOk n p = true) (op : p.Ok) (h1 : 1 ≤ t) (h2 : t ≤ 4294967295) :
    urGood gs secs (ubH gs secs t n p) = nRightB gs secs n p ∧ rnAt (ubH gs secs t n p) 48 = (n, p, true, 0) ∧ ((subN (ubH gs secs t n p) 8 8 : Nat) : Int) = t := by
  have he := ubH_eq (gs := gs) (secs := secs) (t := t) h op
  obtain ⟨l0, l1, l2, l3⟩ := fsum_lt (gbL gs secs)
  obtain ⟨rb, rl⟩ := rn_back h op
  obtain ⟨F, hF⟩ : ∃ F, fsum (gbL gs secs) = F := ⟨_, rfl⟩
  rw [hF] at he l0 l1 l2 l3
  generalize ubH gs secs t n p = s at *
  have k0 : s.drop 0 = _ := he
  have k1 := drop_step k0 (show magicL.length = 8 from rfl)
  have k2 := drop_step k1 (layL_len _ _)
  have k3 := drop_step k2 (layL_len _ _)
  have k4 := drop_step k3 (layL_len _ _)
  have k5 := drop_step k4 (layL_len _ _)
  have k6 := drop_step k5 (layL_len _ _)
  have k7 := drop_step k6 rl
  have m1 := subN_of k1 rfl (by omega)
  have m2 := subN_of k2 rfl (by omega)
  have m3 := subN_of k3 rfl (by omega)
  have m4 := subN_of k4 rfl (by omega)
  have m5 := subN_of k5 rfl (by omega)
  simp only [Nat.zero_add, Nat.reduceAdd] at m1 m2 m3 m4 m5 k6 k7
  have hmag : s.take 8 = magicL := by rw [he]; rfl
  have hrn : rnAt s 48 = (n, p, true, 0) := by unfold rnAt; rw [k6, takeApp rl]; exact rb
  have hsa : sumAt s 16 = F := by unfold sumAt; rw [m2, m3, m4, m5]
  refine ⟨?_, hrn, by rw [m1]; omega⟩
  unfold urGood
  rw [hmag, m1, hsa, hF, hrn, k7]
  have e1 : decide (1 ≤ t.toNat) = true := decide_eq_true (by omega)
  have e2 : decide (t.toNat ≤ 4294967295) = true := decide_eq_true (by omega)
  rw [e1, e2, allZ_rep', beq_self_eq_true, beq_self_eq_true]
  simp
theorem ub_cut {gs : List (Int × Int)} {secs t n : Int} {p : PtrD} (h : nodeOk n p = true) (op : p.Ok) : (ubL gs secs t n p).take 224 = ubH gs secs t n p ∧ (ubL gs secs t n p).drop 224 = sum4 (fsum (ubH gs secs t n p)) := by
  have hl := ubH_len (gs := gs) (secs := secs) (t := t) h op
  unfold ubL
  exact ⟨by rw [← hl, List.take_left], by rw [← hl, List.drop_left]⟩
theorem ubOk_parts {gs : List (Int × Int)} {secs t n : Int} {p : PtrD} (h : ubOk gs secs t n p = true) : gRight gs secs = true ∧ 1 ≤ t ∧ t ≤ 4294967295 ∧ nodeOk n p = true := by
  unfold ubOk at h
  simp only [Bool.and_eq_true, decide_eq_true_eq] at h
  exact h
/-- What is laid is read as it was, if it is right. -/
theorem ur_back {gs : List (Int × Int)} {secs t n : Int} {p : PtrD} (h : ubOk gs secs t n p = true) (op : p.Ok) : urD gs secs (ubL gs secs t n p) = if nRightB gs secs n p then (⟨t, n, p⟩, 0) else (ubZ, 3) := by
  obtain ⟨_, h1, h2, h3⟩ := ubOk_parts h
  obtain ⟨c1, c2⟩ := ub_cut (gs := gs) (secs := secs) (t := t) h3 op
  obtain ⟨r1, r2, r3⟩ := ubH_read (gs := gs) (secs := secs) h3 op h1 h2
  have hl := ubL_len (gs := gs) (secs := secs) (t := t) h3 op
  unfold urD
  rw [if_neg (by omega), if_neg (by omega), c1, c2, if_neg (fun h => h rfl), r1, r2, r3]
theorem zsum : sum4 (fsum (List.replicate 224 0)) = List.replicate 32 0 := by decide +kernel
theorem ur_zero (gs : List (Int × Int)) (secs : Int) : urD gs secs (List.replicate 256 0) = (ubZ, 3) := by
  have e1 : (List.replicate 256 (0 : UInt8)).take 224 = List.replicate 224 0 := by rw [List.take_replicate]; rfl
  have e2 : (List.replicate 256 (0 : UInt8)).drop 224 = List.replicate 32 0 := by rw [List.drop_replicate]
  have hg : urGood gs secs (List.replicate 224 0) = false := by
    unfold urGood
    have : ((List.replicate 224 (0 : UInt8)).take 8 == magicL) = false := by decide +kernel
    rw [this]
    rfl
  unfold urD
  rw [if_neg (by rw [List.length_replicate]; omega), if_neg (by rw [List.length_replicate]; omega), e1, e2, zsum, if_neg (fun h => h rfl), hg]
  rfl
/-- One column is written: what any column reads as. -/
theorem putD_look {aw : List Bool} {ds : List DevD} {N secs : Nat} (ok : DsOk N secs ds) {c e : Col} {t : List UInt8} (h1 : 0 ≤ c.1) (h2 : c.1 < ds.length) (h3 : 0 ≤ c.2.1) (h4 : c.2.1 < secs) (ht : t.length = 64) (e1 : 0 ≤ e.1) :
    look (putD aw ds c t) e = if (decide (e.1 = c.1) && decide (e.2.1 = c.2.1)) && hereD aw ds c.1.toNat then t else look ds e := by
  obtain ⟨d, hd⟩ : ∃ d, ds[c.1.toNat]? = some d := ⟨_, List.getElem?_eq_getElem (by omega)⟩
  have hh : hereD aw ds c.1.toNat = (!(aw.getD c.1.toNat false) && !d.lost) := by unfold hereD; rw [hd]
  rw [hh]
  unfold putD
  rw [hd]
  simp only
  cases hq : (!(aw.getD c.1.toNat false) && !d.lost) with
  | false => simp
  | true =>
    simp only [if_true, Bool.and_true]
    have hdl : d.lost = false := by simp only [Bool.and_eq_true, Bool.not_eq_true'] at hq; exact hq.2
    have hw := wrE_all ok (List.mem_of_getElem? hd) hdl h3 h4 ht
    have hlt : c.1.toNat < ds.length := (List.getElem?_eq_some_iff.1 hd).1
    unfold look
    rw [List.getElem?_set]
    by_cases hdv : e.1 = c.1
    · rw [hdv, if_pos rfl, if_pos hlt, hd]
      by_cases hat : e.2.1 = c.2.1
      · rw [hat, decide_eq_true rfl, decide_eq_true rfl]
        exact wr_rd_same hw
      · rw [decide_eq_false hat, Bool.and_false, if_neg Bool.false_ne_true]
        exact wr_rd_other h3 (fun h => hat h.symm)
    · rw [decide_eq_false hdv, Bool.false_and, if_neg Bool.false_ne_true, if_neg (by omega)]
section
variable {aw : List Bool} {secs : Nat} {s : List UInt8}
theorem ubPut_look {N d base e b i : Nat} (hs : s.length = 256) (hb : base + 4 ≤ secs) (hb4 : base % 4 = 0) (hc4 : b % 4 = 0) (hi : i < 4) : ∀ {ds : List DevD}, DsOk N secs ds → d < ds.length → ∀ k, k ≤ 4 →
    look (ubPut aw d base s ds k) (ubCol e b i) = if e = d ∧ base = b ∧ i < k ∧ hereD aw ds d = true then secAt s i else look ds (ubCol e b i)
  | ds, ok, hd, 0, _ => by rw [if_neg (by omega)]; rfl
  | ds, ok, hd, k + 1, hk => by
    have ih := ubPut_look (d := d) (base := base) (e := e) hs hb hb4 hc4 hi ok hd k (by omega)
    have hsl : (secAt s k).length = 64 := secAt_len (by unfold secN; omega)
    rw [ubPut_step, putD_look (ubPut_ok ok k) (by show (0 : Int) ≤ (d : Int); omega) (by rw [ubPut_len]; show (d : Int) < _; omega) (by show (0 : Int) ≤ ((base + k : Nat) : Int); omega) (by show ((base + k : Nat) : Int) < _; omega) hsl (by show (0 : Int) ≤ (e : Int); omega), ih]
    have hh : hereD aw (ubPut aw d base s ds k) (ubCol d base k).1.toNat = hereD aw ds d := by rw [ubPut_here]; rfl
    have e1 : decide ((ubCol e b i).1 = (ubCol d base k).1) = decide (e = d) := decide_eq_decide.2 (by show (e : Int) = (d : Int) ↔ e = d; omega)
    have e2 : decide ((ubCol e b i).2.1 = (ubCol d base k).2.1) = decide (base = b ∧ i = k) := decide_eq_decide.2 (by show ((b + i : Nat) : Int) = ((base + k : Nat) : Int) ↔ base = b ∧ i = k; omega)
    rw [hh, e1, e2]
    by_cases c1 : e = d
    · by_cases c2 : base = b
      · by_cases c3 : hereD aw ds d = true
        · by_cases c4 : i = k
          · subst c4
            rw [decide_eq_true c1, decide_eq_true (show base = b ∧ i = i from ⟨c2, rfl⟩), c3, if_pos (by rfl), if_pos ⟨c1, c2, by omega, rfl⟩]
          · rw [decide_eq_false (show ¬ (base = b ∧ i = k) from fun h => c4 h.2)]
            simp only [Bool.and_false, Bool.false_and, Bool.false_eq_true, if_false]
            by_cases c5 : i < k
            · rw [if_pos ⟨c1, c2, c5, c3⟩, if_pos ⟨c1, c2, by omega, c3⟩]
            · rw [if_neg (fun h => c5 h.2.2.1), if_neg (fun h => by have := h.2.2.1; omega)]
        · have c3' : hereD aw ds d = false := by simpa using c3
          rw [c3']
          simp
      · rw [decide_eq_false (show ¬ (base = b ∧ i = k) from fun h => c2 h.1)]
        simp [c2]
    · rw [decide_eq_false c1]
      simp [c1]
theorem ubAll_look {N base e b i : Nat} (hs : s.length = 256) (hb : base + 4 ≤ secs) (hb4 : base % 4 = 0) (hc4 : b % 4 = 0) (hi : i < 4) {ds : List DevD} (ok : DsOk N secs ds) (he : hereD aw ds e = true) : ∀ k, k ≤ ds.length →
    look (ubAll aw base s ds k) (ubCol e b i) = if e < k ∧ base = b then secAt s i else look ds (ubCol e b i)
  | 0, _ => by rw [if_neg (by omega)]; rfl
  | k + 1, hk => by
    have ih := ubAll_look (base := base) hs hb hb4 hc4 hi ok he k (by omega)
    rw [ubAll_step, ubPut_look hs hb hb4 hc4 hi (ubAll_ok ok k) (by rw [ubAll_len]; omega) 4 (Nat.le_refl _), ih, ubAll_here]
    by_cases c1 : e = k
    · subst c1
      by_cases c2 : base = b
      · rw [if_pos ⟨rfl, c2, hi, he⟩, if_pos ⟨by omega, c2⟩]
      · rw [if_neg (fun h => c2 h.2.1), if_neg (fun h => c2 h.2), if_neg (fun h => c2 h.2)]
    · rw [if_neg (fun h => c1 h.1)]
      by_cases c2 : e < k ∧ base = b
      · rw [if_pos c2, if_pos ⟨by omega, c2.2⟩]
      · rw [if_neg c2, if_neg (fun h => c2 ⟨by omega, h.2⟩)]
theorem secs_flat (hs : s.length = 256) : ((List.range 4).map (secAt s)).flatten = s := by
  unfold secAt
  simp only [List.range_succ, List.range_zero, List.nil_append, List.map_append, List.map_cons, List.map_nil, List.flatten_append, List.flatten_cons, List.flatten_nil, List.append_nil, Nat.zero_mul, List.drop_zero, Nat.one_mul]
  have h3 : (s.drop (3 * 64)).take 64 = s.drop 192 := List.take_of_length_le (by rw [List.length_drop]; omega)
  have h2 : (s.drop (2 * 64)).take 64 ++ s.drop 192 = s.drop 128 := by have := List.take_append_drop 64 (s.drop 128); rwa [List.drop_drop] at this
  have h1 : (s.drop 64).take 64 ++ s.drop 128 = s.drop 64 := by have := List.take_append_drop 64 (s.drop 64); rwa [List.drop_drop] at this
  have h0 : s.take 64 ++ s.drop 64 = s := List.take_append_drop 64 s
  rw [h3, List.append_assoc, List.append_assoc, h2, h1, h0]
/-- A slot behind a writing. -/
theorem slot_wr {N base e b : Nat} (hs : s.length = 256) (hb : base + 4 ≤ secs) (hb4 : base % 4 = 0) (hc4 : b % 4 = 0) {ds : List DevD} (ok : DsOk N secs ds) (he : hereD aw ds e = true) (hl : e < ds.length) : slotL (ubAll aw base s ds ds.length) e b 4 = if base = b then s else slotL ds e b 4 := by
  unfold slotL
  by_cases c : base = b
  · rw [if_pos c]
    have : (List.range 4).map (fun j => look (ubAll aw base s ds ds.length) (ubCol e b j)) = (List.range 4).map (secAt s) := List.map_congr_left fun j hj => by
      rw [ubAll_look hs hb hb4 hc4 (List.mem_range.1 hj) ok he ds.length (Nat.le_refl _), if_pos ⟨hl, c⟩]
    rw [this, secs_flat hs]
  · rw [if_neg c]
    congr 1
    exact List.map_congr_left fun j hj => by
      rw [ubAll_look hs hb hb4 hc4 (List.mem_range.1 hj) ok he ds.length (Nat.le_refl _), if_neg (fun h => c h.2)]
end
/-- A new device's slot. -/
theorem slot_blank {n secs e b : Nat} (he : e < n) (hb : b + 4 ≤ secs) : slotL (List.replicate n (DevD.blank secs 0)) e b 4 = List.replicate 256 0 := by
  have hl : ∀ j, j < 4 → look (List.replicate n (DevD.blank secs 0)) (ubCol e b j) = List.replicate 64 0 := fun j hj => by
    unfold look ubCol
    dsimp only
    rw [Int.toNat_natCast, List.getElem?_replicate_of_lt he]
    dsimp only
    unfold DevD.rdS DevD.mayE DevD.now DevD.medAt DevD.blank
    dsimp only
    rw [if_pos (by rw [if_neg (by simp), if_neg (by rw [List.length_replicate]; omega)]), Int.toNat_natCast, lastOr_nil, List.getD_eq_getElem?_getD, List.getElem?_replicate_of_lt (by omega)]
    rfl
  unfold slotL
  have : (List.range 4).map (fun j => look (List.replicate n (DevD.blank secs 0)) (ubCol e b j)) = (List.range 4).map fun _ => List.replicate 64 0 := List.map_congr_left fun j hj => hl j (List.mem_range.1 hj)
  rw [this]
  decide +kernel
end Go.Proofs.YtlpbbjjibnbooaaGreatDoor

namespace Go.Proofs.YtlpbbjjibnbooaaGreatDoor
set_option linter.unusedVariables false
set_option linter.unusedSimpArgs false
open Go.RowKit

section
variable {gs : List (Int × Int)} {secs N : Nat} {aw : List Bool} {ds : List DevD}
end
end Go.Proofs.YtlpbbjjibnbooaaGreatDoor

namespace Go.Proofs.YtlpbbjjibnbooaaGreatDoor
set_option linter.unusedVariables false
set_option linter.unusedSimpArgs false
open Go.RowKit

end Go.Proofs.YtlpbbjjibnbooaaGreatDoor

namespace Go.Proofs.YtlpbbjjibnbooaaGreatDoor
set_option linter.unusedVariables false
set_option linter.unusedSimpArgs false
open Go.RowKit

theorem gOne_false {x : Int × Int} (h : gOne x = false) : (x.1 ≠ 0 ∧ x.1 ≠ 1) ∨ (x.1 = 0 ∧ (x.2 < 1 ∨ 8 < x.2)) ∨ (x.1 = 1 ∧ (x.2 < 3 ∨ 8 < x.2)) := by
  have : ¬ ((x.1 = 0 ∧ 1 ≤ x.2 ∧ x.2 ≤ 8) ∨ (x.1 = 1 ∧ 3 ≤ x.2 ∧ x.2 ≤ 8)) := by
    intro h'
    have : gOne x = true := by simpa [gOne] using h'
    rw [h] at this; cases this
  omega

set_option maxHeartbeats 4000000 in
theorem refRight_any (A : Option Addr) (n c : Nat) (gs : List (Int × Int)) (secs : Int) (w : World) (hg : GeoAt w A n gs) :
    Calls Tryz.prog 47 #[.agg #[.slice A n c, .int .i64 secs]] w fun e w' => e = .returned (.bool (gRight gs secs)) ∧ Below w.heap.size w w' := by
  obtain ⟨hl, hn2, hg⟩ := hg
  have hb0 : ∀ o, Below w.heap.size w (w.alloc o) := fun o => (Below.refl _ _).alloc (Nat.le_refl _) o
  by_cases hn : n = 0
  · subst hn
    have hgr : Hid (gRight gs secs = false) := by simp [Hid, gRight, hl]
    clear hg hl
    go_enter Tryz.func47, Tryz.ntmps47
    go_wp2
    go_ret
    exact ⟨ret_bool hgr.out.symm, hb0 _⟩
  · obtain ⟨b, off, rfl, hgs⟩ := hg (by omega)
    clear hg
    by_cases hbad : 4 < n ∨ secs < 24 ∨ 4096 < secs
    · have hgr : Hid (gRight gs secs = false) := by unfold Hid gRight; rw [hl]; simp; omega
      have hn1 : (1 : Int) ≤ n := by omega
      clear hgs hl
      go_enter Tryz.func47, Tryz.ntmps47
      go_wp2
      all_goals go_ret
      all_goals exact ⟨ret_bool (by rw [hgr.out]), hb0 _⟩
    · have hgr : Hid (gRight gs secs = gs.all gOne) := by
        unfold Hid gRight; rw [hl, decide_eq_true (by omega), decide_eq_true (by omega), decide_eq_true (by omega), decide_eq_true (by omega)]
        rfl
      have h1 : (1 : Int) ≤ n := by omega
      have h2 : (n : Int) ≤ 4 := by omega
      have h3 : 24 ≤ secs := by omega
      have h4 : secs ≤ 4096 := by omega
      have Hl := Lib.hid hl
      have hgl := hgs.1
      clear hbad hl
      go_enter Tryz.func47, Tryz.ntmps47
      go_wp2
      have hb1 := hb0 (Obj.cells #[Value.slice (some ⟨b, off, none⟩) n c, Value.int IntKind.i64 secs] 24)
      have k1 : (w.alloc (Obj.cells #[Value.slice (some ⟨b, off, none⟩) n c, Value.int IntKind.i64 secs] 24)).cell? ⟨w.heap.size, 0, none⟩ = some (.slice (some ⟨b, off, none⟩) n c) := cell_new rfl rfl
      have hs1 : w.heap.size < (w.alloc (Obj.cells #[Value.slice (some ⟨b, off, none⟩) n c, Value.int IntKind.i64 secs] 24)).heap.size := by simp
      generalize w.alloc (Obj.cells #[Value.slice (some ⟨b, off, none⟩) n c, Value.int IntKind.i64 secs] 24) = w1 at *
      go_loopw [3] (fun t wr => ∃ k : Nat, k ≤ n ∧ t = .int .i64 k ∧ (∀ j x, j < k → gs[j]? = some x → gOne x = true) ∧ Below w1.heap.size w1 wr) (fun t _ => n - (RowKit.intOf t).toNat)
      case atStart => exact ⟨0, Nat.zero_le _, rfl, fun j x h => absurd h (by omega), Below.refl _ _⟩
      case round =>
        obtain ⟨k, hk, rfl, hno, hb⟩ := hrel
        obtain ⟨wo, rfl⟩ : ∃ wo : World, wo = wr := ⟨_, rfl⟩
        have HN := Lib.hid hno
        clear hno
        have k2 := keep_cell hb k1 hs1
        have hbb := hb1.trans (hb.mono hb1.size)
        by_cases hlt : k < n
        · obtain ⟨x, hx⟩ : ∃ x, gs[k]? = some x := ⟨_, List.getElem?_eq_getElem (by rw [Hl.out]; exact hlt)⟩
          obtain ⟨z1, z2⟩ := (hgs.below hbb (Nat.le_refl _)).2 k x hx
          have HX := Lib.hid hx
          have hi0 : (0 : Int) ≤ k := by omega
          have hi1 : (k : Int) < n := by omega
          clear hx
          cases ho : gOne x with
          | true =>
            have HO := Lib.hid ho
            rcases gOne_true ho with ⟨e, g1, g2⟩ | ⟨e, g1, g2⟩
            all_goals
              obtain ⟨kd, wd⟩ := x
              simp only at e g1 g2 z1 z2
              subst e
              clear ho
              go_wp2_with fail
              go_roundw
              case rel =>
                refine ⟨k + 1, by omega, by go_num, fun j y hj hy => ?_, hb.alloc hb.size _⟩
                rcases Nat.lt_or_ge j k with h | h
                · exact HN.out j y h hy
                · obtain rfl : j = k := by omega
                  rw [HX.out] at hy
                  injection hy with hy
                  rw [← hy]; exact HO.out
              case measure => simp [RowKit.intOf]; omega
          | false =>
            have hf : Hid (gs.all gOne = false) := by
              unfold Hid; rw [List.all_eq_false]; exact ⟨x, List.mem_of_getElem? HX.out, by rw [ho]; simp⟩
            have hz := gOne_false ho
            obtain ⟨kd, wd⟩ := x
            simp only at hz z1 z2
            clear ho HX
            rcases hz with ⟨e1, e2⟩ | ⟨e, e1⟩ | ⟨e, e1⟩
            · have q1 : (kd != 0) = true := by simpa using e1
              have q2 : (kd != 1) = true := by simpa using e2
              clear e1 e2
              go_wp2_with fail
              all_goals go_ret
              all_goals exact ⟨ret_bool (by rw [hgr.out, hf.out]), hbb.alloc hbb.size _⟩
            · subst e
              rcases e1 with e1 | e1
              all_goals
                go_wp2_with fail
                all_goals go_ret
                all_goals exact ⟨ret_bool (by rw [hgr.out, hf.out]), hbb.alloc hbb.size _⟩
            · subst e
              rcases e1 with e1 | e1
              all_goals
                go_wp2_with fail
                all_goals go_ret
                all_goals exact ⟨ret_bool (by rw [hgr.out, hf.out]), hbb.alloc hbb.size _⟩
        · obtain rfl : k = n := by omega
          go_wp2_with fail
          go_ret
          refine ⟨ret_bool ?_, hbb⟩
          symm
          rw [hgr.out, List.all_eq_true]
          intro x hx
          obtain ⟨j, hj⟩ := List.mem_iff_getElem?.1 hx
          exact HN.out j x (by have := (List.getElem?_eq_some_iff.1 hj).1; rw [Hl.out] at this; exact this) hj
/-- What the reference says a block takes of a group. -/
theorem refTakes_any (x : Int × Int) (size : Int) (w : World) (ho : gOne x = true) (h1 : 1 ≤ size) (h2 : size ≤ 4) :
    Calls Tryz.prog 79 #[.agg #[.int .i64 x.1, .int .i64 x.2], .int .i64 size] w fun e w' => e = .returned (.int .i64 (gTake1 x size)) ∧ Below w.heap.size w w' := by
  obtain ⟨kd, wd⟩ := x
  rcases gOne_true ho with ⟨e, g1, g2⟩ | ⟨e, g1, g2⟩
  · simp only at e g1 g2
    subst e
    have ht : Hid (gTake1 (0, wd) size = size) := Lib.hid rfl
    clear ho
    go_enter Tryz.func79, Tryz.ntmps79
    go_wp2_with fail
    go_ret
    exact ⟨ret_int ht.out.symm, (Below.refl _ _).alloc (Nat.le_refl _) _⟩
  · simp only at e g1 g2
    subst e
    obtain ⟨s, rfl⟩ := Int.eq_ofNat_of_zero_le (show 0 ≤ size by omega)
    have ht : Hid (gTake1 (1, wd) s = (s + (s + wd - 2) / (wd - 1)) + (s + (s + wd - 2) / (wd - 1)) % 2) := Lib.hid rfl
    have hd : Hid ((s + wd - 2) / (wd - 1) = if (s : Int) ≤ wd - 1 then 1 else 2) := by
      unfold Hid
      have hw : wd = 3 ∨ wd = 4 ∨ wd = 5 ∨ wd = 6 ∨ wd = 7 ∨ wd = 8 := by omega
      rcases hw with rfl | rfl | rfl | rfl | rfl | rfl <;> split <;> omega
    clear ho
    go_enter Tryz.func79, Tryz.ntmps79
    go_wp2_with fail
    go_loopw [5, 6] (fun n l wr => ∃ j : Nat, j ≤ 2 ∧ n = .int .i64 ((s : Int) + j) ∧ l = .int .i64 ((s : Int) - j * (wd - 1)) ∧ (0 < j → ((j : Int) - 1) * (wd - 1) < s) ∧ Below w.heap.size w wr ∧ wr.cell? ⟨w.heap.size, 1, none⟩ = some (.int .i64 wd))
      (fun _ l _ => (RowKit.intOf l).toNat)
    case atStart => exact ⟨0, by omega, by simp, by simp, fun h => absurd h (by omega), (Below.refl _ _).alloc (Nat.le_refl _) _, cell_new rfl rfl⟩
    case round =>
      obtain ⟨j, hj, rfl, rfl, hpos, hb, hc⟩ := hrel
      have hj3 : j = 0 ∨ j = 1 ∨ j = 2 := by omega
      rcases hj3 with rfl | rfl | rfl
      · have q1 : (0 : Int) < (s : Int) - 0 * (wd - 1) := by omega
        go_wp2_with fail
        go_roundw
        case rel => exact ⟨1, by omega, by congr 1, by congr 1; omega, fun _ => by omega, hb, hc⟩
        case measure => simp [RowKit.intOf]; omega
      · by_cases q : (s : Int) ≤ wd - 1
        · rw [if_pos q] at hd
          have hpar : ((s : Int) + 1) % 2 = 0 ∨ ((s : Int) + 1) % 2 = 1 := by omega
          rcases hpar with hpar | hpar
          all_goals
            go_wp2_with fail
            go_ret
            refine ⟨ret_int ?_, hb⟩
            rw [ht.out, hd.out]; omega
        · go_wp2_with fail
          go_roundw
          case rel => exact ⟨2, by omega, by congr 1, by congr 1; omega, fun _ => by omega, hb, hc⟩
          case measure => simp [RowKit.intOf]; omega
      · have q : ¬ (s : Int) ≤ wd - 1 := by have := hpos (by omega); omega
        rw [if_neg q] at hd
        have hpar : ((s : Int) + 2) % 2 = 0 ∨ ((s : Int) + 2) % 2 = 1 := by omega
        rcases hpar with hpar | hpar
        all_goals
          go_wp2_with fail
          go_ret
          refine ⟨ret_int ?_, hb⟩
          rw [ht.out, hd.out]; omega
end Go.Proofs.YtlpbbjjibnbooaaGreatDoor

namespace Go.Proofs.YtlpbbjjibnbooaaGreatDoor
set_option linter.unusedVariables false
set_option linter.unusedSimpArgs false
open Go.RowKit

set_option maxHeartbeats 4000000 in
theorem refMay_any (A : Option Addr) (n c : Nat) (gs : List (Int × Int)) (secs pg pa size : Int) (w : World) (hg : GeoAt w A n gs) :
    Calls Tryz.prog 78 #[.agg #[.slice A n c, .int .i64 secs], .agg #[.int .i64 pg, .int .i64 pa], .int .i64 size] w fun e w' => e = .returned (.bool (cMay gs secs pg pa size)) ∧ Below w.heap.size w w' := by
  have hb0 : Below w.heap.size w ((w.alloc (Obj.cells #[Value.slice A n c, Value.int IntKind.i64 secs] 24)).alloc (Obj.cells #[Value.int IntKind.i64 pg, Value.int IntKind.i64 pa] 26)) :=
    ((Below.refl _ _).alloc (Nat.le_refl _) _).alloc (by simp) _
  have HR := Lib.hid (refRight_any A n c gs secs _ (hg.below hb0 (Nat.le_refl _)))
  by_cases hr : gRight gs secs = true
  · obtain ⟨hl1, hl4, hs1, hs2, hone⟩ := gRight_parts hr
    rw [hr] at HR
    have Hl := hg.1
    by_cases hv : 1 ≤ size ∧ size ≤ 4 ∧ 0 ≤ pg ∧ pg < n ∧ 0 ≤ pa ∧ pa ≤ 100000
    · obtain ⟨v1, v2, v3, v4, v5, v6⟩ := hv
      obtain ⟨k, rfl⟩ := Int.eq_ofNat_of_zero_le v3
      obtain ⟨x, hx⟩ : ∃ x, gs[k]? = some x := ⟨_, List.getElem?_eq_getElem (by omega)⟩
      have ho := hone x (List.mem_of_getElem? hx)
      have hhas : gHas gs secs k = true := by unfold gHas; rw [hr]; simp; omega
      have hgx : grAt gs k = x := by unfold grAt; rw [Int.toNat_natCast, List.getD_eq_getElem?_getD, hx]; rfl
      have hT : gTakes gs secs k size = gTake1 x size := by unfold gTakes; rw [hhas, decide_eq_true v1, decide_eq_true v2, hgx]; rfl
      have hTb := gTakes_bd gs secs k size
      rw [hT] at hTb
      have hS : gSectors gs secs k = if x.1 == 1 then (secs - 16) * x.2 else secs - 16 := by unfold gSectors; rw [hhas, hgx]; rfl
      have HT := Lib.hid fun W => refTakes_any x size W ho v1 v2
      have hT0 : 0 < gTake1 x size := by
        unfold gTake1
        rcases gOne_true ho with ⟨e, g1, g2⟩ | ⟨e, g1, g2⟩
        · rw [e]; simp; omega
        · rw [e]
          have := par_rows v1 v2 g1 g2
          simp only [show ((1 : Int) == 0) = false from rfl, Bool.false_eq_true, if_false]
          omega
      have hC : Hid (cMay gs secs k pa size = decide (pa + gTake1 x size ≤ if x.1 == 1 then (secs - 16) * x.2 else secs - 16)) := by
        unfold Hid cMay; rw [hT, hS, decide_eq_true hT0, decide_eq_true v5, Bool.true_and, Bool.true_and]
        congr 1
        rw [eq_iff_iff]
        constructor <;> intro h <;> omega
      obtain ⟨b, off, rfl, hgs⟩ := hg.2.2 (by omega)
      have HX := Lib.hid hx
      have ho' := gOne_true ho
      obtain ⟨kd, wd⟩ := x
      obtain ⟨tb1, tb2⟩ := hTb
      clear hr hx ho hone hhas hgx hT hS hg hT0
      generalize gTake1 (kd, wd) size = T at *
      go_enter Tryz.func78, Tryz.ntmps78
      go_wp2_with fail
      refine HR.out.mono ?_
      rintro e w1 ⟨rfl, hb1⟩
      have hb2 := hb0.trans (hb1.mono (by simp; omega))
      have k1 : w1.cell? ⟨w.heap.size, 0, none⟩ = some (.slice (some ⟨b, off, none⟩) n c) := keep_cell hb1 (cell_alloc (cell_new rfl rfl) _) (by simp; omega)
      have k2 : w1.cell? ⟨w.heap.size, 1, none⟩ = some (.int .i64 secs) := keep_cell hb1 (cell_alloc (cell_new rfl rfl) _) (by simp; omega)
      have k3 : w1.cell? ⟨w.heap.size + 1, 0, none⟩ = some (.int .i64 k) := keep_cell hb1 (cell_new (by simp) rfl) (by simp)
      have k4 : w1.cell? ⟨w.heap.size + 1, 1, none⟩ = some (.int .i64 pa) := keep_cell hb1 (cell_new (by simp) rfl) (by simp)
      obtain ⟨z1, z2⟩ := (hgs.below hb2 (Nat.le_refl _)).2 k _ HX.out
      have hsz : w.heap.size + 2 ≤ w1.heap.size := by have := hb1.size; simp at this; omega
      have a2 := fun X => cell_alloc k2 X
      have a4 := fun X => cell_alloc k4 X
      have a1 := fun X => cell_alloc k1 X
      have hb3 := fun X => hb2.alloc hb2.size X
      have HB3 := Lib.hid hb3
      clear hb1 hb0 hgs hb3
      rcases ho' with ⟨e, g1, g2⟩ | ⟨e, g1, g2⟩
      · subst e
        go_wp2_with fail
        have g0 := cell_new (W := w1) (k := w1.heap.size) (o := 0) (cs := #[.int .i64 0, .int .i64 wd]) (t := 71) rfl rfl
        have g3 := cell_new (W := w1) (k := w1.heap.size) (o := 1) (cs := #[.int .i64 0, .int .i64 wd]) (t := 71) rfl rfl
        have g4 := a4 (.cells #[.int .i64 0, .int .i64 wd] 71)
        have hb3 := HB3.out (.cells #[.int .i64 0, .int .i64 wd] 71)
        have hz : w1.heap.size < (w1.alloc (.cells #[.int .i64 0, .int .i64 wd] 71)).heap.size := by simp
        clear k1 k2 k3 k4 a1 a2 a4 z1 z2
        generalize w1.alloc (.cells #[.int .i64 0, .int .i64 wd] 71) = w2 at *
        obtain ⟨C, hCd, _, hCB, hCK, hCD⟩ := cls_below w2
        have f1 : ∀ W, C W → W.cell? ⟨w.heap.size + 1, 1, none⟩ = some (.int .i64 pa) := fun W h => keep_cell (hCB W h) g4 (by omega)
        have f2 : ∀ W, C W → W.cell? ⟨w1.heap.size, 0, none⟩ = some (.int .i64 0) := fun W h => keep_cell (hCB W h) g0 hz
        have f3 : ∀ W, C W → W.cell? ⟨w1.heap.size, 1, none⟩ = some (.int .i64 wd) := fun W h => keep_cell (hCB W h) g3 hz
        have wT : IntKind.i64.wrap (pa + T) = pa + T := by rw [IntKind.wrap_i64] <;> omega
        clear g0 g3 g4
        refine wp_region_cls C (by kernel_rfl) (by kernel_rfl) hCd ?_
        repeat (first
          | go_big_quiet_skip
          | (go_big_quiet_want
             go_big_quiet_op
             first
               | go_big_quiet_on
               | (apply Exists.intro
                  refine ⟨fun W hW => ?_, ?_⟩
                  · first
                      | exact rfl
                      | exact ⟨rfl, rfl⟩
                      | (have e0 := f1 W hW; have e1 := f2 W hW; have e2 := f3 W hW; simp only [e0, e1, e2, Result.andThen_ok]; done)
                      | (have e0 := f1 W hW; have e1 := f2 W hW; have e2 := f3 W hW; simp only [e0, e1, e2, Result.andThen_ok]; first | exact ⟨trivial, rfl⟩ | exact rfl | exact ⟨rfl, rfl⟩)
                      | (refine (HT.out W).mono ?_; rintro e w' ⟨rfl, hb⟩; exact ⟨rfl, hCK _ _ hW hb⟩)
                  go_big_quiet_on)))
        refine wpQuiet_nil ?_
        intro w' hw'
        have hwB := hCB w' hw'
        go_wp2_with fail
        go_ret
        exact ⟨ret_bool hC.out.symm, hb3.trans (hwB.mono hb3.size)⟩
      · subst e
        have hm := mul_bd (a := secs - 16) (b := wd) (by omega) (by omega) (by omega) g2
        go_wp2_with fail
        have g0 := cell_new (W := w1) (k := w1.heap.size) (o := 0) (cs := #[.int .i64 1, .int .i64 wd]) (t := 71) rfl rfl
        have g3 := cell_new (W := w1) (k := w1.heap.size) (o := 1) (cs := #[.int .i64 1, .int .i64 wd]) (t := 71) rfl rfl
        have g4 := a4 (.cells #[.int .i64 1, .int .i64 wd] 71)
        have hb3 := HB3.out (.cells #[.int .i64 1, .int .i64 wd] 71)
        have hz : w1.heap.size < (w1.alloc (.cells #[.int .i64 1, .int .i64 wd] 71)).heap.size := by simp
        clear k1 k2 k3 k4 a1 a2 a4 z1 z2
        generalize w1.alloc (.cells #[.int .i64 1, .int .i64 wd] 71) = w2 at *
        obtain ⟨C, hCd, _, hCB, hCK, hCD⟩ := cls_below w2
        have f1 : ∀ W, C W → W.cell? ⟨w.heap.size + 1, 1, none⟩ = some (.int .i64 pa) := fun W h => keep_cell (hCB W h) g4 (by omega)
        have f2 : ∀ W, C W → W.cell? ⟨w1.heap.size, 0, none⟩ = some (.int .i64 1) := fun W h => keep_cell (hCB W h) g0 hz
        have f3 : ∀ W, C W → W.cell? ⟨w1.heap.size, 1, none⟩ = some (.int .i64 wd) := fun W h => keep_cell (hCB W h) g3 hz
        have wT : IntKind.i64.wrap (pa + T) = pa + T := by rw [IntKind.wrap_i64] <;> omega
        clear g0 g3 g4
        refine wp_region_cls C (by kernel_rfl) (by kernel_rfl) hCd ?_
        repeat (first
          | go_big_quiet_skip
          | (go_big_quiet_want
             go_big_quiet_op
             first
               | go_big_quiet_on
               | (apply Exists.intro
                  refine ⟨fun W hW => ?_, ?_⟩
                  · first
                      | exact rfl
                      | exact ⟨rfl, rfl⟩
                      | (have e0 := f1 W hW; have e1 := f2 W hW; have e2 := f3 W hW; simp only [e0, e1, e2, Result.andThen_ok]; done)
                      | (have e0 := f1 W hW; have e1 := f2 W hW; have e2 := f3 W hW; simp only [e0, e1, e2, Result.andThen_ok]; first | exact ⟨trivial, rfl⟩ | exact rfl | exact ⟨rfl, rfl⟩)
                      | (refine (HT.out W).mono ?_; rintro e w' ⟨rfl, hb⟩; exact ⟨rfl, hCK _ _ hW hb⟩)
                  go_big_quiet_on)))
        refine wpQuiet_nil ?_
        intro w' hw'
        have hwB := hCB w' hw'
        go_wp2_with fail
        go_ret
        exact ⟨ret_bool hC.out.symm, hb3.trans (hwB.mono hb3.size)⟩
    · have hC : Hid (cMay gs secs pg pa size = false) := by
        unfold Hid
        rw [Bool.eq_false_iff]
        intro h
        have h' := cMay_true h
        have hS := gSectors_bd gs secs pg
        have hT := gTakes_bd gs secs pg size
        obtain ⟨q1, q2, q3, q4, q5, q6⟩ := h'
        obtain ⟨k', x, e, hk, _⟩ := gHas_true q1
        exact hv ⟨q2, q3, by omega, by omega, q4, by omega⟩
      clear hr hone hg
      go_enter Tryz.func78, Tryz.ntmps78
      go_wp2_with fail
      refine HR.out.mono ?_
      rintro e w1 ⟨rfl, hb1⟩
      have hb2 := hb0.trans (hb1.mono (by simp; omega))
      have k1 : w1.cell? ⟨w.heap.size, 0, none⟩ = some (.slice A n c) := keep_cell hb1 (cell_alloc (cell_new rfl rfl) _) (by simp; omega)
      have k2 : w1.cell? ⟨w.heap.size, 1, none⟩ = some (.int .i64 secs) := keep_cell hb1 (cell_alloc (cell_new rfl rfl) _) (by simp; omega)
      have k3 : w1.cell? ⟨w.heap.size + 1, 0, none⟩ = some (.int .i64 pg) := keep_cell hb1 (cell_new (by simp) rfl) (by simp)
      have k4 : w1.cell? ⟨w.heap.size + 1, 1, none⟩ = some (.int .i64 pa) := keep_cell hb1 (cell_new (by simp) rfl) (by simp)
      clear hb1 hb0
      go_wp2_with fail
      all_goals first | (exfalso; omega) | go_ret
      all_goals exact ⟨ret_bool hC.out.symm, hb2⟩
  · have hr' : gRight gs secs = false := by simpa using hr
    have hC : Hid (cMay gs secs pg pa size = false) := by
      unfold Hid
      rw [Bool.eq_false_iff]
      intro h
      have := (cMay_true h).1
      unfold gHas at this
      rw [hr'] at this
      simp at this
    rw [hr'] at HR
    clear hr hr' hg
    go_enter Tryz.func78, Tryz.ntmps78
    go_wp2_with fail
    refine HR.out.mono ?_
    rintro e w1 ⟨rfl, hb1⟩
    go_wp2_with fail
    go_ret
    exact ⟨ret_bool hC.out.symm, hb0.trans (hb1.mono (by simp; omega))⟩
end Go.Proofs.YtlpbbjjibnbooaaGreatDoor
