/-
  What an uberblock's bytes are read as: plain law.
  Uberblocks written one behind the other: plain law.
  The statement UberRing, walked.
  A world for the witness in which the library tables that the rows list hold what their texts lay.
-/
import Derived.Test.YtlpbbjjibnbooaaGreatDoorJ21
import Derived.Test.YtlpbbjjibnbooaaGreatDoorRows
import Derived.Deep.DeepHandedRow
namespace Go.Proofs.YtlpbbjjibnbooaaGreatDoor
set_option linter.unusedVariables false
set_option linter.unusedSimpArgs false
open Go.RowKit

theorem allZ_rep' (n : Nat) : allZ (List.replicate n 0) = true := by simp [allZ]
theorem sum4_eq (x : Nat × Nat × Nat × Nat) : sum4 x = layL x.1 8 ++ (layL x.2.1 8 ++ (layL x.2.2.1 8 ++ layL x.2.2.2 8)) := by simp [sum4, sumL]
theorem ubH_eq {gs : List (Int × Int)} {secs t n : Int} {p : PtrD} (h : nodeOk n p = true) (op : p.Ok) : ubH gs secs t n p = magicL ++ (layL t.toNat 8 ++ (layL (fsum (gbL gs secs)).1 8 ++ (layL (fsum (gbL gs secs)).2.1 8 ++ (layL (fsum (gbL gs secs)).2.2.1 8 ++ (layL (fsum (gbL gs secs)).2.2.2 8 ++ (nodeL n p ++ List.replicate 48 0)))))) := by
  have hl : (magicL ++ layL t.toNat 8 ++ sum4 (fsum (gbL gs secs)) ++ nodeL n p).length = 176 := by rw [List.length_append, List.length_append, List.length_append, layL_len, sum4_len, nodeL_len h op]; rfl
  unfold ubH padL
  rw [if_pos (by decide), hl, sum4_eq]
  simp only [List.append_assoc]
  rfl
theorem ubH_read {gs : List (Int × Int)} {secs t n : Int} {p : PtrD} (h : nodeOk n p = true) (op : p.Ok) (h1 : 1 ≤ t) (h2 : t ≤ 4294967295) :
    urGood gs secs (ubH gs secs t n p) = nRightB gs secs n p ∧ rnAt (ubH gs secs t n p) 48 = (n, p, true, 0) ∧ ((subN (ubH gs secs t n p) 8 8 : Nat) : Int) = t := by
  have he := ubH_eq (gs := gs) (secs := secs) (t := t) h op
  obtain ⟨l0, l1, l2, l3⟩ := fsum_lt (gbL gs secs)
  obtain ⟨rb, rl⟩ := rn_back h op
  obtain ⟨F, hF⟩ : ∃ F, fsum (gbL gs secs) = F := ⟨_, rfl⟩
  rw [hF] at he l0 l1 l2 l3
  generalize ubH gs secs t n p = s at *
  have k0 : s.drop 0 = _ := he
  have k1 := drop_step k0 (show magicL.length = 8 from rfl)
  have k2 := drop_step k1 (layL_len _ _)
  have k3 := drop_step k2 (layL_len _ _)
  have k4 := drop_step k3 (layL_len _ _)
  have k5 := drop_step k4 (layL_len _ _)
  have k6 := drop_step k5 (layL_len _ _)
  have k7 := drop_step k6 rl
  have m1 := subN_of k1 rfl (by omega)
  have m2 := subN_of k2 rfl (by omega)
  have m3 := subN_of k3 rfl (by omega)
  have m4 := subN_of k4 rfl (by omega)
  have m5 := subN_of k5 rfl (by omega)
  simp only [Nat.zero_add, Nat.reduceAdd] at m1 m2 m3 m4 m5 k6 k7
  have hmag : s.take 8 = magicL := by rw [he]; rfl
  have hrn : rnAt s 48 = (n, p, true, 0) := by unfold rnAt; rw [k6, takeApp rl]; exact rb
  have hsa : sumAt s 16 = F := by unfold sumAt; rw [m2, m3, m4, m5]
  refine ⟨?_, hrn, by rw [m1]; omega⟩
  unfold urGood
  rw [hmag, m1, hsa, hF, hrn, k7]
  have e1 : decide (1 ≤ t.toNat) = true := decide_eq_true (by omega)
  have e2 : decide (t.toNat ≤ 4294967295) = true := decide_eq_true (by omega)
  rw [e1, e2, allZ_rep', beq_self_eq_true, beq_self_eq_true]
  simp
theorem ub_cut {gs : List (Int × Int)} {secs t n : Int} {p : PtrD} (h : nodeOk n p = true) (op : p.Ok) : (ubL gs secs t n p).take 224 = ubH gs secs t n p ∧ (ubL gs secs t n p).drop 224 = sum4 (fsum (ubH gs secs t n p)) := by
  have hl := ubH_len (gs := gs) (secs := secs) (t := t) h op
  unfold ubL
  exact ⟨by rw [← hl, List.take_left], by rw [← hl, List.drop_left]⟩
theorem ubOk_parts {gs : List (Int × Int)} {secs t n : Int} {p : PtrD} (h : ubOk gs secs t n p = true) : gRight gs secs = true ∧ 1 ≤ t ∧ t ≤ 4294967295 ∧ nodeOk n p = true := by
  unfold ubOk at h
  simp only [Bool.and_eq_true, decide_eq_true_eq] at h
  exact h
/-- What is laid is read as it was, if it is right. -/
theorem ur_back {gs : List (Int × Int)} {secs t n : Int} {p : PtrD} (h : ubOk gs secs t n p = true) (op : p.Ok) : urD gs secs (ubL gs secs t n p) = if nRightB gs secs n p then (⟨t, n, p⟩, 0) else (ubZ, 3) := by
  obtain ⟨_, h1, h2, h3⟩ := ubOk_parts h
  obtain ⟨c1, c2⟩ := ub_cut (gs := gs) (secs := secs) (t := t) h3 op
  obtain ⟨r1, r2, r3⟩ := ubH_read (gs := gs) (secs := secs) h3 op h1 h2
  have hl := ubL_len (gs := gs) (secs := secs) (t := t) h3 op
  unfold urD
  rw [if_neg (by omega), if_neg (by omega), c1, c2, if_neg (fun h => h rfl), r1, r2, r3]
theorem zsum : sum4 (fsum (List.replicate 224 0)) = List.replicate 32 0 := by decide +kernel
theorem ur_zero (gs : List (Int × Int)) (secs : Int) : urD gs secs (List.replicate 256 0) = (ubZ, 3) := by
  have e1 : (List.replicate 256 (0 : UInt8)).take 224 = List.replicate 224 0 := by rw [List.take_replicate]; rfl
  have e2 : (List.replicate 256 (0 : UInt8)).drop 224 = List.replicate 32 0 := by rw [List.drop_replicate]
  have hg : urGood gs secs (List.replicate 224 0) = false := by
    unfold urGood
    have : ((List.replicate 224 (0 : UInt8)).take 8 == magicL) = false := by decide +kernel
    rw [this]
    rfl
  unfold urD
  rw [if_neg (by rw [List.length_replicate]; omega), if_neg (by rw [List.length_replicate]; omega), e1, e2, zsum, if_neg (fun h => h rfl), hg]
  rfl
/-- One column is written: what any column reads as. -/
theorem putD_look {aw : List Bool} {ds : List DevD} {N secs : Nat} (ok : DsOk N secs ds) {c e : Col} {t : List UInt8} (h1 : 0 ≤ c.1) (h2 : c.1 < ds.length) (h3 : 0 ≤ c.2.1) (h4 : c.2.1 < secs) (ht : t.length = 64) (e1 : 0 ≤ e.1) :
    look (putD aw ds c t) e = if (decide (e.1 = c.1) && decide (e.2.1 = c.2.1)) && hereD aw ds c.1.toNat then t else look ds e := by
  obtain ⟨d, hd⟩ : ∃ d, ds[c.1.toNat]? = some d := ⟨_, List.getElem?_eq_getElem (by omega)⟩
  have hh : hereD aw ds c.1.toNat = (!(aw.getD c.1.toNat false) && !d.lost) := by unfold hereD; rw [hd]
  rw [hh]
  unfold putD
  rw [hd]
  simp only
  cases hq : (!(aw.getD c.1.toNat false) && !d.lost) with
  | false => simp
  | true =>
    simp only [if_true, Bool.and_true]
    have hdl : d.lost = false := by simp only [Bool.and_eq_true, Bool.not_eq_true'] at hq; exact hq.2
    have hw := wrE_all ok (List.mem_of_getElem? hd) hdl h3 h4 ht
    have hlt : c.1.toNat < ds.length := (List.getElem?_eq_some_iff.1 hd).1
    unfold look
    rw [List.getElem?_set]
    by_cases hdv : e.1 = c.1
    · rw [hdv, if_pos rfl, if_pos hlt, hd]
      by_cases hat : e.2.1 = c.2.1
      · rw [hat, decide_eq_true rfl, decide_eq_true rfl]
        exact wr_rd_same hw
      · rw [decide_eq_false hat, Bool.and_false, if_neg Bool.false_ne_true]
        exact wr_rd_other h3 (fun h => hat h.symm)
    · rw [decide_eq_false hdv, Bool.false_and, if_neg Bool.false_ne_true, if_neg (by omega)]
section
variable {aw : List Bool} {secs : Nat} {s : List UInt8}
theorem ubPut_look {N d base e b i : Nat} (hs : s.length = 256) (hb : base + 4 ≤ secs) (hb4 : base % 4 = 0) (hc4 : b % 4 = 0) (hi : i < 4) : ∀ {ds : List DevD}, DsOk N secs ds → d < ds.length → ∀ k, k ≤ 4 →
    look (ubPut aw d base s ds k) (ubCol e b i) = if e = d ∧ base = b ∧ i < k ∧ hereD aw ds d = true then secAt s i else look ds (ubCol e b i)
  | ds, ok, hd, 0, _ => by rw [if_neg (by omega)]; rfl
  | ds, ok, hd, k + 1, hk => by
    have ih := ubPut_look (d := d) (base := base) (e := e) hs hb hb4 hc4 hi ok hd k (by omega)
    have hsl : (secAt s k).length = 64 := secAt_len (by unfold secN; omega)
    rw [ubPut_step, putD_look (ubPut_ok ok k) (by show (0 : Int) ≤ (d : Int); omega) (by rw [ubPut_len]; show (d : Int) < _; omega) (by show (0 : Int) ≤ ((base + k : Nat) : Int); omega) (by show ((base + k : Nat) : Int) < _; omega) hsl (by show (0 : Int) ≤ (e : Int); omega), ih]
    have hh : hereD aw (ubPut aw d base s ds k) (ubCol d base k).1.toNat = hereD aw ds d := by rw [ubPut_here]; rfl
    have e1 : decide ((ubCol e b i).1 = (ubCol d base k).1) = decide (e = d) := decide_eq_decide.2 (by show (e : Int) = (d : Int) ↔ e = d; omega)
    have e2 : decide ((ubCol e b i).2.1 = (ubCol d base k).2.1) = decide (base = b ∧ i = k) := decide_eq_decide.2 (by show ((b + i : Nat) : Int) = ((base + k : Nat) : Int) ↔ base = b ∧ i = k; omega)
    rw [hh, e1, e2]
    by_cases c1 : e = d
    · by_cases c2 : base = b
      · by_cases c3 : hereD aw ds d = true
        · by_cases c4 : i = k
          · subst c4
            rw [decide_eq_true c1, decide_eq_true (show base = b ∧ i = i from ⟨c2, rfl⟩), c3, if_pos (by rfl), if_pos ⟨c1, c2, by omega, rfl⟩]
          · rw [decide_eq_false (show ¬ (base = b ∧ i = k) from fun h => c4 h.2)]
            simp only [Bool.and_false, Bool.false_and, Bool.false_eq_true, if_false]
            by_cases c5 : i < k
            · rw [if_pos ⟨c1, c2, c5, c3⟩, if_pos ⟨c1, c2, by omega, c3⟩]
            · rw [if_neg (fun h => c5 h.2.2.1), if_neg (fun h => by have := h.2.2.1; omega)]
        · have c3' : hereD aw ds d = false := by simpa using c3
          rw [c3']
          simp
      · rw [decide_eq_false (show ¬ (base = b ∧ i = k) from fun h => c2 h.1)]
        simp [c2]
    · rw [decide_eq_false c1]
      simp [c1]
theorem ubAll_look {N base e b i : Nat} (hs : s.length = 256) (hb : base + 4 ≤ secs) (hb4 : base % 4 = 0) (hc4 : b % 4 = 0) (hi : i < 4) {ds : List DevD} (ok : DsOk N secs ds) (he : hereD aw ds e = true) : ∀ k, k ≤ ds.length →
    look (ubAll aw base s ds k) (ubCol e b i) = if e < k ∧ base = b then secAt s i else look ds (ubCol e b i)
  | 0, _ => by rw [if_neg (by omega)]; rfl
  | k + 1, hk => by
    have ih := ubAll_look (base := base) hs hb hb4 hc4 hi ok he k (by omega)
    rw [ubAll_step, ubPut_look hs hb hb4 hc4 hi (ubAll_ok ok k) (by rw [ubAll_len]; omega) 4 (Nat.le_refl _), ih, ubAll_here]
    by_cases c1 : e = k
    · subst c1
      by_cases c2 : base = b
      · rw [if_pos ⟨rfl, c2, hi, he⟩, if_pos ⟨by omega, c2⟩]
      · rw [if_neg (fun h => c2 h.2.1), if_neg (fun h => c2 h.2), if_neg (fun h => c2 h.2)]
    · rw [if_neg (fun h => c1 h.1)]
      by_cases c2 : e < k ∧ base = b
      · rw [if_pos c2, if_pos ⟨by omega, c2.2⟩]
      · rw [if_neg c2, if_neg (fun h => c2 ⟨by omega, h.2⟩)]
theorem secs_flat (hs : s.length = 256) : ((List.range 4).map (secAt s)).flatten = s := by
  unfold secAt
  simp only [List.range_succ, List.range_zero, List.nil_append, List.map_append, List.map_cons, List.map_nil, List.flatten_append, List.flatten_cons, List.flatten_nil, List.append_nil, Nat.zero_mul, List.drop_zero, Nat.one_mul]
  have h3 : (s.drop (3 * 64)).take 64 = s.drop 192 := List.take_of_length_le (by rw [List.length_drop]; omega)
  have h2 : (s.drop (2 * 64)).take 64 ++ s.drop 192 = s.drop 128 := by have := List.take_append_drop 64 (s.drop 128); rwa [List.drop_drop] at this
  have h1 : (s.drop 64).take 64 ++ s.drop 128 = s.drop 64 := by have := List.take_append_drop 64 (s.drop 64); rwa [List.drop_drop] at this
  have h0 : s.take 64 ++ s.drop 64 = s := List.take_append_drop 64 s
  rw [h3, List.append_assoc, List.append_assoc, h2, h1, h0]
/-- A slot behind a writing. -/
theorem slot_wr {N base e b : Nat} (hs : s.length = 256) (hb : base + 4 ≤ secs) (hb4 : base % 4 = 0) (hc4 : b % 4 = 0) {ds : List DevD} (ok : DsOk N secs ds) (he : hereD aw ds e = true) (hl : e < ds.length) : slotL (ubAll aw base s ds ds.length) e b 4 = if base = b then s else slotL ds e b 4 := by
  unfold slotL
  by_cases c : base = b
  · rw [if_pos c]
    have : (List.range 4).map (fun j => look (ubAll aw base s ds ds.length) (ubCol e b j)) = (List.range 4).map (secAt s) := List.map_congr_left fun j hj => by
      rw [ubAll_look hs hb hb4 hc4 (List.mem_range.1 hj) ok he ds.length (Nat.le_refl _), if_pos ⟨hl, c⟩]
    rw [this, secs_flat hs]
  · rw [if_neg c]
    congr 1
    exact List.map_congr_left fun j hj => by
      rw [ubAll_look hs hb hb4 hc4 (List.mem_range.1 hj) ok he ds.length (Nat.le_refl _), if_neg (fun h => c h.2)]
end
/-- A new device's slot. -/
theorem slot_blank {n secs e b : Nat} (he : e < n) (hb : b + 4 ≤ secs) : slotL (List.replicate n (DevD.blank secs 0)) e b 4 = List.replicate 256 0 := by
  have hl : ∀ j, j < 4 → look (List.replicate n (DevD.blank secs 0)) (ubCol e b j) = List.replicate 64 0 := fun j hj => by
    unfold look ubCol
    dsimp only
    rw [Int.toNat_natCast, List.getElem?_replicate_of_lt he]
    dsimp only
    unfold DevD.rdS DevD.mayE DevD.now DevD.medAt DevD.blank
    dsimp only
    rw [if_pos (by rw [if_neg (by simp), if_neg (by rw [List.length_replicate]; omega)]), Int.toNat_natCast, lastOr_nil, List.getD_eq_getElem?_getD, List.getElem?_replicate_of_lt (by omega)]
    rfl
  unfold slotL
  have : (List.range 4).map (fun j => look (List.replicate n (DevD.blank secs 0)) (ubCol e b j)) = (List.range 4).map fun _ => List.replicate 64 0 := List.map_congr_left fun j hj => hl j (List.mem_range.1 hj)
  rw [this]
  decide +kernel
end Go.Proofs.YtlpbbjjibnbooaaGreatDoor

namespace Go.Proofs.YtlpbbjjibnbooaaGreatDoor
set_option linter.unusedVariables false
set_option linter.unusedSimpArgs false
open Go.RowKit

theorem lsT_nil18 {D : DevD} {n : Nat} : lsT [] D n n = List.replicate n D := by
  unfold lsT bAt
  simp [List.map_const']
theorem node0_ok : nodeOk 0 ptrZ = true := by decide +kernel
theorem right0 (gs : List (Int × Int)) (secs : Int) : nRightB gs secs 0 ptrZ = true := by
  unfold nRightB
  rw [show noneB ptrZ = true by decide +kernel]
  rfl
def ring (gs : List (Int × Int)) (secs : Int) (aw : List Bool) (ds : List DevD) : Nat → List DevD
  | 0 => ds
  | T + 1 => uwD gs secs aw ((T + 1 : Nat) : Int) 0 ptrZ (ring gs secs aw ds T)
def wantN (s : Nat) : Nat → Nat
  | 0 => 0
  | T + 1 => if (T + 1) % 4 = s then T + 1 else wantN s T
theorem wantN_le (s : Nat) : ∀ T, wantN s T ≤ T
  | 0 => Nat.le_refl _
  | T + 1 => by
    have := wantN_le s T
    unfold wantN
    split <;> omega
section
variable {gs : List (Int × Int)} {secs N : Nat} {aw : List Bool} {ds : List DevD}
theorem ring_ok1 (hr : gRight gs secs = true) {T : Nat} (hT : T + 1 ≤ 4294967295) : ubOk gs secs ((T + 1 : Nat) : Int) 0 ptrZ = true := by
  unfold ubOk
  rw [hr, node0_ok, decide_eq_true (show (1 : Int) ≤ ((T + 1 : Nat) : Int) by omega), decide_eq_true (show ((T + 1 : Nat) : Int) ≤ 4294967295 by omega)]
  rfl
theorem ring_step (hr : gRight gs secs = true) {T : Nat} (hT : T + 1 ≤ 4294967295) : ring gs secs aw ds (T + 1) = ubAll aw ((T + 1) % 4 * 4) (ubL gs secs ((T + 1 : Nat) : Int) 0 ptrZ) (ring gs secs aw ds T) (ring gs secs aw ds T).length := by
  show uwD gs secs aw ((T + 1 : Nat) : Int) 0 ptrZ (ring gs secs aw ds T) = _
  unfold uwD
  rw [if_pos (ring_ok1 hr hT), Int.toNat_natCast]
theorem ring_len (hr : gRight gs secs = true) : ∀ T, T ≤ 4294967295 → (ring gs secs aw ds T).length = ds.length
  | 0, _ => rfl
  | T + 1, h => by rw [ring_step hr h, ubAll_len, ring_len hr T (by omega)]
theorem ring_here (hr : gRight gs secs = true) (i : Nat) : ∀ T, T ≤ 4294967295 → hereD aw (ring gs secs aw ds T) i = hereD aw ds i
  | 0, _ => rfl
  | T + 1, h => by rw [ring_step hr h, ubAll_here, ring_here hr i T (by omega)]
theorem ring_ok (hr : gRight gs secs = true) (ok : DsOk N secs ds) : ∀ T, T ≤ 4294967295 → DsOk (N + 4 * ds.length * T) secs (ring gs secs aw ds T)
  | 0, _ => ok
  | T + 1, h => by
    rw [ring_step hr h, ring_len hr T (by omega), show N + 4 * ds.length * (T + 1) = N + 4 * ds.length * T + 4 * ds.length by rw [Nat.mul_add]; omega]
    exact ubAll_ok (ring_ok hr ok T (by omega)) _
theorem ring_slot (hr : gRight gs secs = true) (hs : 24 ≤ secs) {n k s : Nat} (hk : k < n) (hh : hereD aw (List.replicate n (DevD.blank secs 0)) k = true) (hs4 : s < 4) : ∀ T, T ≤ 4294967295 →
    slotL (ring gs secs aw (List.replicate n (DevD.blank secs 0)) T) k (s * 4) 4 = if wantN s T = 0 then List.replicate 256 0 else ubL gs secs ((wantN s T : Nat) : Int) 0 ptrZ
  | 0, _ => slot_blank hk (by omega)
  | T + 1, h => by
    have hs36 : secs ≤ 4096 := (gRight_parts hr).2.2.2.1 |> fun h => by omega
    have ih := ring_slot hr hs hk hh hs4 T (by omega)
    have hl := ring_len (aw := aw) (ds := List.replicate n (DevD.blank secs 0)) hr T (by omega)
    have ok := ring_ok (aw := aw) hr (blanks_ok (n := n) (b := 0) (show 1 ≤ secs by omega) hs36) T (by omega)
    rw [ring_step hr h, slot_wr (ubL_len node0_ok ptrZ_ok) (by omega) (by omega) (by omega) ok (by rw [ring_here hr k T (by omega)]; exact hh) (by rw [hl, List.length_replicate]; exact hk), ih]
    conv => rhs; unfold wantN
    by_cases c : (T + 1) % 4 = s
    · rw [if_pos (by omega), if_pos c, if_neg (by omega)]
    · rw [if_neg (by omega), if_neg c]
theorem ring_read (hr : gRight gs secs = true) (hs : 24 ≤ secs) {n k s : Nat} (hk : k < n) (hh : hereD aw (List.replicate n (DevD.blank secs 0)) k = true) (hs4 : s < 4) {T : Nat} (hT : T ≤ 4294967295) :
    uoD gs secs aw (ring gs secs aw (List.replicate n (DevD.blank secs 0)) T) k s = (⟨(wantN s T : Nat), 0, ptrZ⟩, if wantN s T = 0 then 3 else 0) := by
  unfold uoD
  rw [ring_here hr k T hT, hh, if_pos rfl, ring_slot hr hs hk hh hs4 T hT]
  have hle := wantN_le s T
  by_cases c : wantN s T = 0
  · rw [if_pos c, if_pos c, ur_zero, c]
    rfl
  · obtain ⟨m, hm⟩ : ∃ m, wantN s T = m + 1 := ⟨wantN s T - 1, by omega⟩
    rw [if_neg c, if_neg c, hm, ur_back (ring_ok1 hr (by omega)) ptrZ_ok, right0]
    rfl
end
end Go.Proofs.YtlpbbjjibnbooaaGreatDoor

namespace Go.Proofs.YtlpbbjjibnbooaaGreatDoor
set_option linter.unusedVariables false
set_option linter.unusedSimpArgs false
open Go.RowKit

set_option maxRecDepth 20000 in
set_option maxHeartbeats 4000000 in
theorem uberRing_any (A : Option Addr) (m c : Nat) (gs : List (Int × Int)) (secs : Int) (nn dd : Nat) (hnn : nn < 256) (hdd : dd < 256) {w : World} (hg : GeoAt w A m gs) :
    Calls Tryz.prog 6 #[.agg #[.slice A m c, .int .i64 secs], .int .u8 nn, .int .u8 dd] w fun e w' => e = .returned (.bool true) ∧ Below w.heap.size w w' := by
  have hbu := build_ub1
  obtain ⟨w2, hw2⟩ : ∃ z, w.alloc (.cells #[.slice A m c, .int .i64 secs] 24) = z := ⟨_, rfl⟩
  have B1 : Blk w2 w.heap.size 24 #[.slice A m c, .int .i64 secs] := by rw [← hw2]; exact Blk.new _ _ _
  have D2 : Below w.heap.size w w2 := by rw [← hw2]; exact keep_alloc (Below.refl _ _) _
  have HB := Lib.hid (And.intro B1 D2)
  have HW2 := Lib.hid hw2
  have HG := Lib.hid (hg.below D2 (Nat.le_refl _))
  clear B1 D2 hw2 hg
  go_enter Tryz.func6, Tryz.ntmps6
  go_wp2_with fail
  rw [HW2.out]
  refine (awake18_any w2).mono ?_
  rintro e w3 ⟨rfl, hb3⟩
  have g0 := keepU (HB.out.1.at_ (i := 0) (v := .slice A m c) rfl) hb3
  have g1 := keepU (HB.out.1.at_ (i := 1) (v := .int .i64 secs) rfl) hb3
  have hg3 := HG.out.below hb3 (Nat.le_refl _)
  have HB3 := Lib.hid (keep_below hb3 HB.out.2)
  clear hb3
  cases hr : (gRight gs secs && decide (secs ≤ 200)) with
  | false =>
    have HD := Lib.hid (devices_bad (c := c) hg3 hr (.slice none 0 0) (.slice none 0 0))
    clear hg3 hr
    go_wp2_with fail
    refine HD.out.mono ?_
    rintro e w4 ⟨rfl, hb4⟩
    have HB4 := Lib.hid (keep_below hb4 HB3.out)
    clear g0 g1 hb4
    go_wp2_with fail
    go_ret
    exact ⟨rfl, keep_alloc HB4.out _⟩
  | true =>
    simp only [Bool.and_eq_true, decide_eq_true_eq] at hr
    obtain ⟨hr1, hr2⟩ := hr
    have hgp := gRight_parts hr1
    obtain ⟨sn, rfl⟩ := Int.eq_ofNat_of_zero_le (show 0 ≤ secs by omega)
    obtain ⟨n, hn⟩ : ∃ n : Nat, gSum gs = n := ⟨(gSum gs).toNat, by have := gSum_pos hr1; omega⟩
    have hn32 : n ≤ 32 := by have := sum_take_bd hr1 gs.length; rw [List.take_length] at this; omega
    have hn0 : 0 < n := by have := gSum_pos hr1; omega
    have HD := Lib.hid (devices_any2 (c := c) hg3 hr1 (by omega) hn (al := []) (ll := []) (slAt_none w3 _) (slAt_none w3 _))
    have hs24 : 24 ≤ sn := by have := hgp.2.2.1; omega
    have hs200 : sn ≤ 200 := by omega
    have HR := Lib.hid hr1
    clear hg3 hr1 hr2 hgp hn
    go_wp2_with fail
    refine HD.out.mono ?_
    rintro e w4 ⟨y, S, U, hv, rfl, hys, hysec, hyn, hV, hU, hsl, _, hb4⟩
    obtain ⟨Av, cv, rfl, hncv, _⟩ := hsl
    rw [lsT_nil18, awT_nil] at hV
    obtain ⟨aw, haw⟩ : ∃ aw, List.replicate n false = aw := ⟨_, rfl⟩
    have hbl : ∀ i, i < n → hereD aw (List.replicate n (DevD.blank sn 0)) i = true := fun i hi => by rw [← haw]; exact here_blank hi
    rw [haw] at hV
    have few : y.bd.length ≤ 1000 := by omega
    have hokr : ∀ T, T ≤ 12 → DsOk (4 * n * T) sn (ring gs sn aw (List.replicate n (DevD.blank sn 0)) T) := fun T hT => by
      have := ring_ok (aw := aw) HR.out (blanks_ok (n := n) (b := 0) (show 1 ≤ sn by omega) (show sn ≤ 4096 by omega)) T (by omega)
      rw [List.length_replicate, Nat.zero_add] at this
      exact this
    have HOKR := Lib.hid hokr
    have HBL := Lib.hid hbl
    have HWR : Hid (∀ (T : Nat) (S' : Nat → Nat → Prop) (U' : Nat → Prop) (W : World), T < 12 → VdIn W S' U' y aw (ring gs sn aw (List.replicate n (DevD.blank sn 0)) T) → Calls Tryz.prog 13 #[y.val, .agg #[.int .i64 ((T : Int) + 1), .int .i64 0, .int .i64 0, .int .i64 0, .int .i64 0, .int .i64 0, .bool false, .int .i64 0, .int .i64 0, .int .i64 0, .int .u64 0, .int .u64 0, .int .u64 0, .int .u64 0]] W fun e w' => (∃ k, e = .returned (.tuple #[.int .i64 k, .int .i64 0])) ∧ (∃ S', VdIn w' S' U' y aw (ring gs sn aw (List.replicate n (DevD.blank sn 0)) (T + 1))) ∧ Stays U' W w') := Lib.hid fun T S' U' W hT hW => by
      have hbd : 4 * n * T ≤ 4 * 32 * 12 := Nat.mul_le_mul (by omega) (by omega)
      have h1 := uwrite_any hW few (N := 4 * n * T) (by rw [hysec]; exact HOKR.out T (by omega)) (by omega) (by rw [hysec]; omega) ((T + 1 : Nat) : Int) 0 ptrZ ptrZ_ok
      rw [hys, hysec] at h1
      have hlen := ring_len (aw := aw) (ds := List.replicate n (DevD.blank sn 0)) HR.out T (by omega)
      rw [List.length_replicate] at hlen
      have hgn : goneN aw (ring gs sn aw (List.replicate n (DevD.blank sn 0)) T) n = 0 := by
        unfold goneN
        rw [List.length_eq_zero_iff, List.filter_eq_nil_iff]
        intro i hi
        rw [ring_here HR.out i T (by omega), HBL.out i (List.mem_range.1 hi)]
        decide
      have hE : uwE gs (sn : Int) aw ((T + 1 : Nat) : Int) 0 ptrZ (ring gs sn aw (List.replicate n (DevD.blank sn 0)) T) = 0 := by
        unfold uwE
        rw [if_pos (ring_ok1 HR.out (by omega)), hlen, hgn, if_neg (by omega)]
      rw [hE] at h1
      exact h1.mono fun e w' ⟨a, b, c⟩ => ⟨⟨_, a⟩, b, c⟩
    have hkn : dd % n < n := Nat.mod_lt _ hn0
    obtain ⟨dk, hdk⟩ : ∃ dk, dd % n = dk := ⟨_, rfl⟩
    have hm1 : (dd : Int) % (n : Int) = (dk : Int) := by rw [← hdk]; rfl
    have hm2 : (dd : Int).tmod (n : Int) = (dk : Int) := by rw [← hdk]; exact (Int.ofNat_tmod _ _).symm
    rw [hdk] at hkn
    obtain ⟨lr, hlr⟩ : ∃ lr, nn % 12 = lr := ⟨_, rfl⟩
    have hl12 : lr < 12 := by omega
    have hm3 : (nn : Int) % 12 = (lr : Int) := by omega
    have hm4 : (nn : Int).tmod 12 = (lr : Int) := by rw [← hlr]; exact (Int.ofNat_tmod _ _).symm
    obtain ⟨w5, hw5⟩ : ∃ z, w4.alloc (.cells y.cells 50) = z := ⟨_, rfl⟩
    have hX5 : Blk w5 w4.heap.size 50 y.cells := by rw [← hw5]; exact Blk.new _ _ _
    have hb5 : Below w4.heap.size w4 w5 := by rw [← hw5]; exact keep_alloc (Below.refl _ _) _
    obtain ⟨U1, hU1⟩ : ∃ U1, U1 = more U w4 w5 := ⟨_, rfl⟩
    have hV5 : VdIn w5 S U1 y aw (List.replicate n (DevD.blank sn 0)) := by rw [hU1]; exact hV.more hb5
    have hu1 : U1 w4.heap.size ∧ ∀ b, b < w3.heap.size → U1 b := by rw [hU1]; exact ⟨.inr ⟨Nat.le_refl _, hX5.lt⟩, fun b hb => .inl (hU b hb)⟩
    have HV5 := Lib.hid hV5
    have HU1 := Lib.hid hu1
    have HX5 := Lib.hid hX5
    have HB5 := Lib.hid (keep_below (keep_below hb5 hb4) HB3.out)
    have HS3 : Hid (w.heap.size ≤ w3.heap.size) := Lib.hid HB3.out.size
    have HON : Hid (∀ (s T : Nat) (S' : Nat → Nat → Prop) (U' : Nat → Prop) (W : World), s < 4 → T ≤ 12 → VdIn W S' U' y aw (ring gs sn aw (List.replicate n (DevD.blank sn 0)) T) → Calls Tryz.prog 19 #[y.val, .int .i64 (dk : Int), .int .i64 (s : Int)] W fun e w' => e = .returned (.tuple #[.agg #[.int .i64 (wantN s T : Nat), .int .i64 0, .int .i64 0, .int .i64 0, .int .i64 0, .int .i64 0, .bool false, .int .i64 0, .int .i64 0, .int .i64 0, .int .u64 0, .int .u64 0, .int .u64 0, .int .u64 0], .int .i64 (if wantN s T = 0 then 3 else 0)]) ∧ Below W.heap.size W w') := Lib.hid fun s T S' U' W hs hT hW => by
      have h1 := uon_any hW few (N := 4 * n * T) (by rw [hysec]; exact HOKR.out T hT) dk s (by omega) hs
      rw [hys, hysec, ring_read HR.out hs24 hkn (HBL.out dk hkn) hs (by omega)] at h1
      exact h1
    have HW5 := Lib.hid hw5
    have HYN := Lib.hid hyn
    have x0 := hX5.at_ (i := 0) (v := .slice (some ⟨y.gb, 0, none⟩) y.m y.cc) rfl
    have x1 := hX5.at_ (i := 1) (v := .int .i64 y.secs) rfl
    have x2 := hX5.at_ (i := 2) (v := .slice (some ⟨y.lb, 0, none⟩) y.bd.length y.lc) rfl
    have x3 := hX5.at_ (i := 3) (v := .slice (some ⟨y.ab, 0, none⟩) y.bd.length y.bd.length) rfl
    rw [← hw5] at x0 x1 x2 x3
    clear hys hysec hyn hV hU hb4 haw hbl few hokr hdk hlr hw5 hX5 hb5 hU1 hV5 hu1 HD g0 g1 hs24 hs200
    go_wp2_with fail
    rw [HW5.out]
    clear x0 x1 x2 x3
    go_loopw [11, 12, 13, 39] (fun t _ _ _ wr => ∃ (T : Nat) (S' : Nat → Nat → Prop), T ≤ lr + 1 ∧ t = .int .i64 ((T : Int) + 1) ∧ VdIn wr S' U1 y aw (ring gs sn aw (List.replicate n (DevD.blank sn 0)) T) ∧ Stays U1 w5 wr) (fun t _ _ _ _ => lr + 2 - (RowKit.intOf t).toNat)
    case atStart => exact ⟨0, S, Nat.zero_le _, rfl, HV5.out, stays_refl _⟩
    case round =>
      obtain ⟨T, S', hT, rfl, hVr, hst⟩ := hrel
      have hxr : Blk wr w4.heap.size 50 y.cells := (hst.heap HU1.out.1 HX5.out.lt).trans HX5.out
      have HVR := Lib.hid hVr
      have HST := Lib.hid hst
      have HXR := Lib.hid hxr
      have x0 := (hxr).at_ (i := 0) (v := .slice (some ⟨y.gb, 0, none⟩) y.m y.cc) rfl
      have x1 := (hxr).at_ (i := 1) (v := .int .i64 y.secs) rfl
      have x2 := (hxr).at_ (i := 2) (v := .slice (some ⟨y.lb, 0, none⟩) y.bd.length y.lc) rfl
      have x3 := (hxr).at_ (i := 3) (v := .slice (some ⟨y.ab, 0, none⟩) y.bd.length y.bd.length) rfl
      clear hVr hst hxr
      by_cases hlt : T < lr + 1
      · have hd1 : decide ((T : Int) + 1 ≤ 1 + (lr : Int)) = true := decide_eq_true (by omega)
        have HLT := Lib.hid hlt
        have hT13 : T ≤ 13 := by omega
        clear hT hlt
        go_wp2_with fail
        refine (HWR.out T _ _ _ (by have := HLT.out; omega) HVR.out).mono ?_
        rintro e w6 ⟨⟨kk, rfl⟩, ⟨S6, hV6⟩, hst6⟩
        have H6 := Lib.hid (And.intro hV6 (HST.out.trans hst6))
        clear hV6 hst6 x0 x1 x2 x3
        go_wp2_with fail
        go_roundw
        case rel => exact ⟨T + 1, S6, by have := HLT.out; omega, by go_num, H6.out.1, H6.out.2⟩
        case measure => have := HLT.out; simp [RowKit.intOf]; omega
      · have hd1 : decide ((T : Int) + 1 ≤ 1 + (lr : Int)) = false := decide_eq_false (by omega)
        have HTE : Hid (T = lr + 1) := Lib.hid (by omega)
        have hT12 : T ≤ 12 := by omega
        have HB := Lib.hid (keep_below (Below.refl _ _) (HB5.out.trans (HST.out.below HB5.out.size (fun i hi => HU1.out.2 i (by have := HS3.out; omega)))))
        clear hT hlt x0 x1 x2 x3
        obtain ⟨wb, hwb⟩ : ∃ z, wr = z := ⟨_, rfl⟩
        rw [hwb] at HVR HST HXR HB ⊢
        clear hwb
        go_wp2_with fail
        go_loopw [15, 16, 17, 18, 19, 57] (fun s _ _ _ _ _ wq => ∃ k : Nat, k ≤ 4 ∧ s = .int .i64 k ∧ Below wb.heap.size wb wq) (fun s _ _ _ _ _ _ => 4 - (RowKit.intOf s).toNat)
        case atStart => exact ⟨0, by omega, rfl, Below.refl _ _⟩
        case round =>
          obtain ⟨k, hk, rfl, hbq⟩ := hrel
          have HBQ := Lib.hid hbq
          have hxq := HXR.out.below hbq HXR.out.lt
          by_cases hk4 : k < 4
          · have hd2 : decide (k < 4) = true := decide_eq_true hk4
            have hon := HON.out k T _ _ _ hk4 hT12 (HVR.out.below hbq)
            obtain ⟨W, hW⟩ : ∃ W, wantN k T = W := ⟨_, rfl⟩
            obtain ⟨er, her⟩ : ∃ er : Int, (if W = 0 then (3 : Int) else 0) = er := ⟨_, rfl⟩
            rw [hW, her] at hon
            have HERR := Lib.hid her
            have hWl : W ≤ T := by rw [← hW]; exact wantN_le _ _
            have HON2 := Lib.hid hon
            have HWE := Lib.hid hW
            have x0 := (hxq).at_ (i := 0) (v := .slice (some ⟨y.gb, 0, none⟩) y.m y.cc) rfl
            have x1 := (hxq).at_ (i := 1) (v := .int .i64 y.secs) rfl
            have x2 := (hxq).at_ (i := 2) (v := .slice (some ⟨y.lb, 0, none⟩) y.bd.length y.lc) rfl
            have x3 := (hxq).at_ (i := 3) (v := .slice (some ⟨y.ab, 0, none⟩) y.bd.length y.bd.length) rfl
            clear hk hbq hxq hon hW her
            go_wp2_with fail
            refine HON2.out.mono ?_
            rintro e w7 ⟨rfl, hb7⟩
            obtain ⟨w8, hw8⟩ : ∃ z, w7.alloc (.cells #[.int .i64 (W : Int), .int .i64 0, .int .i64 0, .int .i64 0, .int .i64 0, .int .i64 0, .bool false, .int .i64 0, .int .i64 0, .int .i64 0, .int .u64 0, .int .u64 0, .int .u64 0, .int .u64 0] 35) = z := ⟨_, rfl⟩
            have hN8 : Blk w8 w7.heap.size 35 #[.int .i64 (W : Int), .int .i64 0, .int .i64 0, .int .i64 0, .int .i64 0, .int .i64 0, .bool false, .int .i64 0, .int .i64 0, .int .i64 0, .int .u64 0, .int .u64 0, .int .u64 0, .int .u64 0] := by rw [← hw8]; exact Blk.new _ _ _
            have hb8 : Below wb.heap.size wb w8 := by rw [← hw8]; exact keep_alloc (keep_below hb7 HBQ.out) _
            have n0 := hN8.at_ (i := 0) (v := .int .i64 (W : Int)) rfl
            have HN0 := Lib.hid n0
            have HB8 := Lib.hid hb8
            have HW8 := Lib.hid hw8
            clear hb7 hw8 hN8 hb8 n0 x0 x1 x2 x3
            go_wp2_with fail
            rw [HW8.out]
            go_loopw [18, 19] (fun v t wx => ∃ i : Nat, i ≤ T ∧ t = .int .i64 ((i : Int) + 1) ∧ v = .int .i64 (wantN k i : Nat) ∧ Below w8.heap.size w8 wx) (fun _ t _ => T + 1 - (RowKit.intOf t).toNat)
            case atStart => exact ⟨0, Nat.zero_le _, rfl, rfl, Below.refl _ _⟩
            case round =>
              obtain ⟨i, hi, rfl, rfl, hbx⟩ := hrel
              have HBX := Lib.hid hbx
              have n0 := keepU HN0.out hbx
              by_cases hil : i < T
              · have hd3 : decide ((i : Int) + 1 ≤ 1 + (lr : Int)) = true := decide_eq_true (by have := HTE.out; omega)
                obtain ⟨r4, hr4⟩ : ∃ r4, (i + 1) % 4 = r4 := ⟨_, rfl⟩
                have hm5 : ((i : Int) + 1) % 4 = (r4 : Int) := by omega
                have hm6 : ((i : Int) + 1).tmod 4 = (r4 : Int) := by rw [← hr4]; exact (Int.ofNat_tmod _ _).symm
                have hstep : wantN k (i + 1) = if r4 = k then i + 1 else wantN k i := by rw [← hr4]; rfl
                have HIL := Lib.hid hil
                have hi12 : i ≤ 12 := by omega
                by_cases hrk : r4 = k
                · have hq : ((r4 : Int) == (k : Int)) = true := by rw [beq_iff_eq]; omega
                  rw [if_pos hrk] at hstep
                  have HST1 := Lib.hid hstep
                  clear hstep hr4 hrk hbx hi hil
                  go_wp2_with fail
                  go_roundw
                  case rel => exact ⟨i + 1, HIL.out, by go_num, by rw [HST1.out]; go_num, HBX.out⟩
                  case measure => have := HIL.out; simp [RowKit.intOf]; omega
                · have hq : ((r4 : Int) == (k : Int)) = false := by rw [beq_eq_false_iff_ne]; omega
                  rw [if_neg hrk] at hstep
                  have HST1 := Lib.hid hstep
                  clear hstep hr4 hrk hbx hi hil
                  go_wp2_with fail
                  go_roundw
                  case rel => exact ⟨i + 1, HIL.out, by go_num, by rw [HST1.out], HBX.out⟩
                  case measure => have := HIL.out; simp [RowKit.intOf]; omega
              · have hd3 : decide ((i : Int) + 1 ≤ 1 + (lr : Int)) = false := decide_eq_false (by have := HTE.out; omega)
                have hWi : wantN k i = W := by rw [show i = T by omega]; exact HWE.out
                rw [hWi]
                have HFIN := Lib.hid (keep_below hbx HB8.out)
                have HK4 := Lib.hid hk4
                have hww : ((W : Int) != (W : Int)) = false := by simp
                clear hWi hbx hi hil hk4
                by_cases hW0 : W = 0
                · have he3 : er = 3 := by rw [← HERR.out, if_pos hW0]
                  subst hW0
                  subst he3
                  have hd4 : decide ((0 : Int) < ((0 : Nat) : Int)) = false := rfl
                  go_wp2_with fail
                  go_roundw
                  case rel => exact ⟨k + 1, HK4.out, by go_num, HFIN.out⟩
                  case measure => have := HK4.out; simp [RowKit.intOf]; omega
                · have hd4 : decide ((0 : Int) < (W : Int)) = true := decide_eq_true (by omega)
                  have hd5 : decide (0 < W) = true := decide_eq_true (by omega)
                  have HW0 := Lib.hid hW0
                  obtain rfl : er = 0 := by rw [← HERR.out, if_neg hW0]
                  clear hW0
                  go_wp2_with fail
                  go_roundw
                  case rel => exact ⟨k + 1, HK4.out, by go_num, HFIN.out⟩
                  case measure => have := HK4.out; simp [RowKit.intOf]; omega
          · obtain rfl : k = 4 := by omega
            have hd2 : decide ((4 : Nat) < 4) = false := decide_eq_false (by omega)
            have HFIN := Lib.hid (HB.out.trans (hbq.mono HB.out.size))
            clear hk4 hk hbq hxq
            go_wp2_with fail
            go_ret
            exact ⟨rfl, HFIN.out⟩
end Go.Proofs.YtlpbbjjibnbooaaGreatDoor

namespace Go.Proofs.YtlpbbjjibnbooaaGreatDoor

def litOf : DataW Unit → Value
  | .lit (.int k n) => .int k n
  | _ => .int .i64 0
def partsOf : DataW Unit → List (DataW Unit)
  | .agg l => l
  | _ => []
def firstCells : Array Value := ((partsOf Rows.laid_unicode_utf8_first).map litOf).toArray
def rangeCells : Array Value := ((partsOf (Rows.laid_unicode_utf8_acceptRanges (H := Unit))).flatMap fun d => (partsOf d).map litOf).toArray
def layCells (cs : Array Value) : Obj → Obj
  | .cells _ t frozen => .cells cs t frozen
  | o => o
noncomputable def laidWorld (os : Os) : World :=
  { World.holding Tryz.prog os ⟨#[], #[], []⟩ with heap := Array.modify (Array.modify (World.holding Tryz.prog os ⟨#[], #[], []⟩).heap 1 (layCells firstCells)) 2 (layCells rangeCells) }
end Go.Proofs.YtlpbbjjibnbooaaGreatDoor
