/-
  The document's example (layer 8).
  What was written is what is read: columns on devices. No program stands here.
  What a statement of layer 8 keeps: its boxes, the measure; devices as they are made.
  Contracts: uber.Write.
-/
import Derived.Test.YtlpbbjjibnbooaaGreatDoorJ11
import Derived.Test.YtlpbbjjibnbooaaGreatDoorJ10
import Derived.Test.YtlpbbjjibnbooaaGreatDoorJ19
import Derived.Test.YtlpbbjjibnbooaaGreatDoorJ07
namespace Go.Proofs.YtlpbbjjibnbooaaGreatDoor
set_option linter.unusedVariables false
set_option linter.unusedSimpArgs false
open Go.RowKit

theorem geo_ex (w : World) : GeoAt (w.alloc (.cells #[.int .i64 0, .int .i64 2] 71)) (some ⟨w.heap.size, 0, none⟩) 1 [(0, 2)] := by
  refine ⟨rfl, by decide, fun _ => ⟨w.heap.size, 0, rfl, by simp, fun i x hx => ?_⟩⟩
  have hi : i = 0 := by
    have := (List.getElem?_eq_some_iff.1 hx).1
    simp at this
    exact this
  subst hi
  simp at hx
  subst hx
  exact ⟨(Blk.new _ _ _).at_ rfl, (Blk.new _ _ _).at_ rfl⟩
end Go.Proofs.YtlpbbjjibnbooaaGreatDoor

namespace Go.Proofs.YtlpbbjjibnbooaaGreatDoor
set_option linter.unusedVariables false
set_option linter.unusedSimpArgs false

/-- What a column of the devices reads as. -/
def look (ds : List DevD) (c : Col) : List UInt8 := match ds[c.1.toNat]? with
  | some d => d.rdS c.2.1
  | none => []
theorem wr_mayE (d : DevD) (a b : Int) (t : List UInt8) : (d.wr a t).mayE b = d.mayE b := by
  unfold DevD.mayE
  rw [wr_lost, DevD.wr_med]
theorem wr_now_same {d : DevD} {a : Int} {t : List UInt8} (h : d.wrE a t = 0) : (d.wr a t).now a.toNat = t := by
  unfold DevD.wr
  rw [if_pos h]
  unfold DevD.now DevD.put
  simp [lastOr]
theorem wr_now_other {d : DevD} {a : Int} {t : List UInt8} {k : Nat} (h : k ≠ a.toNat) : (d.wr a t).now k = d.now k := by
  unfold DevD.wr
  split
  · unfold DevD.now DevD.put DevD.burn DevD.medAt
    simp only [if_neg h]
  · rfl
theorem wr_rd_same {d : DevD} {a : Int} {t : List UInt8} (h : d.wrE a t = 0) : (d.wr a t).rdS a = t := by
  have hm : d.mayE a = 0 := by
    unfold DevD.wrE at h
    split at h
    · rename_i hn; exact absurd h hn
    · rename_i hn; exact Decidable.of_not_not hn
  unfold DevD.rdS
  rw [wr_mayE, if_pos hm, wr_now_same h]
theorem wr_rd_other {d : DevD} {a b : Int} {t : List UInt8} (ha : 0 ≤ a) (hn : a ≠ b) : (d.wr a t).rdS b = d.rdS b := by
  unfold DevD.rdS
  rw [wr_mayE]
  split
  · rename_i hm
    have := DevD.mayE_ok hm
    rw [wr_now_other (by omega)]
  · rfl
/-- Columns that are what a block's may be. -/
structure Cols (n secs : Nat) (L : List Col) (T : List (List UInt8)) : Prop where
  inn : ∀ (j : Nat) (c : Col), L[j]? = some c → 0 ≤ c.1 ∧ c.1 < n ∧ 0 ≤ c.2.1 ∧ c.2.1 < secs
  txt : ∀ j : Nat, j < L.length → ∃ t, T[j]? = some t ∧ t.length = 64
  dis : ∀ (i j : Nat) (c e : Col), i ≠ j → L[i]? = some c → L[j]? = some e → ¬ (c.1 = e.1 ∧ c.2.1 = e.2.1)
end Go.Proofs.YtlpbbjjibnbooaaGreatDoor

namespace Go.Proofs.YtlpbbjjibnbooaaGreatDoor
set_option linter.unusedVariables false
set_option linter.unusedSimpArgs false
open Go.RowKit

/-- The boxes of a statement over devices: the measure, the place, the devices. -/
structure KX (w W : World) (A : Option Addr) (m c : Nat) (secs pg pa : Int) (y : VX) (xb : Nat) : Prop where
  g : Blk W w.heap.size 24 #[.slice A m c, .int .i64 secs]
  p : Blk W (w.heap.size + 1) 26 #[.int .i64 pg, .int .i64 pa]
  x : Blk W xb 50 y.cells
  bel : Below w.heap.size w W
section
variable {w W W' : World} {A : Option Addr} {m c : Nat} {secs pg pa : Int} {y : VX} {xb : Nat} {U : Nat → Prop}
theorem KX.stays (h : KX w W A m c secs pg pa y xb) (hs : Stays U W W') (hU : ∀ b, b < w.heap.size + 2 → U b) (hx : U xb) : KX w W' A m c secs pg pa y xb :=
  ⟨(hs.heap (hU _ (by omega)) h.g.lt).trans h.g, (hs.heap (hU _ (by omega)) h.p.lt).trans h.p, (hs.heap hx h.x.lt).trans h.x, h.bel.trans (hs.below h.bel.size (fun i hi => hU i (by omega)))⟩
theorem KX.below (h : KX w W A m c secs pg pa y xb) (hb : Below W.heap.size W W') : KX w W' A m c secs pg pa y xb :=
  ⟨h.g.below hb h.g.lt, h.p.below hb h.p.lt, h.x.below hb h.x.lt, keep_below hb h.bel⟩
theorem KX.far (h : KX w W A m c secs pg pa y xb) {b : Nat} (hb : w.heap.size + 2 ≤ b) (hx : xb ≠ b) (i : Nat) (u : Value) : KX w (W.setCell ⟨b, i, none⟩ u) A m c secs pg pa y xb :=
  ⟨h.g.far (by show w.heap.size ≠ b; omega) u, h.p.far (by show w.heap.size + 1 ≠ b; omega) u, h.x.far hx u, below_set h.bel _ _ _ (by omega)⟩
end
theorem blanks_ok {n secs : Nat} {b : UInt8} (h1 : 1 ≤ secs) (h2 : secs ≤ 4096) : DsOk 0 secs (List.replicate n (DevD.blank secs b)) := fun d hd => by
  rw [List.eq_of_mem_replicate hd]
  exact ⟨blank_ok h1 h2, by simp [DevD.blank], rfl, fun k => Nat.zero_le _⟩
end Go.Proofs.YtlpbbjjibnbooaaGreatDoor

namespace Go.Proofs.YtlpbbjjibnbooaaGreatDoor
set_option linter.unusedVariables false
set_option linter.unusedSimpArgs false
open Go.RowKit

set_option maxRecDepth 20000 in
theorem vHere_any {w : World} {S : Nat → Nat → Prop} {U : Nat → Prop} {x : VX} {aw : List Bool} {ds : List DevD} (h : VdIn w S U x aw ds) (few : x.bd.length ≤ 1000) (d : Int) :
    Calls Tryz.prog 42 #[x.val, .int .i64 d] w fun e w' => e = .returned (.bool (decide (0 ≤ d) && (decide (d < x.bd.length) && hereD aw ds d.toNat))) ∧ Below w.heap.size w w' := by
  obtain ⟨w1, hw1⟩ : ∃ y, w.alloc (.cells x.cells 50) = y := ⟨_, rfl⟩
  have B1 : Blk w1 w.heap.size 50 x.cells := by rw [← hw1]; exact Blk.new _ _ _
  have D1 : Below w.heap.size w w1 := by rw [← hw1]; exact keep_alloc (Below.refl _ _) _
  have h1 := h.below D1
  have HR := Lib.hid (vright_any h1 few)
  have HB1 := Lib.hid B1
  have HD1 := Lib.hid D1
  have HW1 := Lib.hid hw1
  have HV := Lib.hid h1
  have x0 := B1.at_ (i := 0) (v := .slice (some ⟨x.gb, 0, none⟩) x.m x.cc) rfl
  have x1 := B1.at_ (i := 1) (v := .int .i64 x.secs) rfl
  have x2 := B1.at_ (i := 2) (v := .slice (some ⟨x.lb, 0, none⟩) x.bd.length x.lc) rfl
  have x3 := B1.at_ (i := 3) (v := .slice (some ⟨x.ab, 0, none⟩) x.bd.length x.bd.length) rfl
  clear h h1 B1 D1 hw1
  go_enter Tryz.func42, Tryz.ntmps42
  by_cases h0 : 0 ≤ d
  · have hd0 : decide (0 ≤ d) = true := decide_eq_true h0
    by_cases hl : d < x.bd.length
    · have hd1 : decide (d < (x.bd.length : Int)) = true := decide_eq_true hl
      obtain ⟨i, rfl⟩ := Int.eq_ofNat_of_zero_le h0
      have hil : i < x.bd.length := by omega
      have HH := Lib.hid (fun (W : World) (hb : Below w1.heap.size w1 W) => hereV_any (HV.out.below hb) hil)
      have hres : (decide ((0 : Int) ≤ (i : Int)) && (decide ((i : Int) < x.bd.length) && hereD aw ds (i : Int).toNat)) = hereD aw ds i := by rw [hd0, hd1, Int.toNat_natCast]; simp
      rw [hres]
      have hd2 : decide (i < x.bd.length) = true := decide_eq_true hil
      clear hres hl hd1 h0 hd0
      go_wp2_with fail
      rw [HW1.out]
      go_wp2_with fail
      refine HR.out.mono ?_
      rintro e w2 ⟨rfl, hb2⟩
      have HB2 := Lib.hid hb2
      have x0 := keepU x0 hb2
      have x1 := keepU x1 hb2
      have x2 := keepU x2 hb2
      have x3 := keepU x3 hb2
      clear hb2
      go_wp2_with fail
      refine (HH.out w2 HB2.out).mono ?_
      rintro e w3 ⟨rfl, hb3⟩
      have HB3 := Lib.hid (keep_below (keep_below hb3 HB2.out) HD1.out)
      clear hb3
      go_wp2_with fail
      go_ret
      exact ⟨rfl, HB3.out⟩
    · have hd1 : decide (d < (x.bd.length : Int)) = false := decide_eq_false hl
      have hres : (decide ((0 : Int) ≤ d) && (decide (d < x.bd.length) && hereD aw ds d.toNat)) = false := by rw [hd1]; simp
      rw [hres]
      clear hres hl h0
      go_wp2_with fail
      rw [HW1.out]
      go_wp2_with fail
      refine HR.out.mono ?_
      rintro e w2 ⟨rfl, hb2⟩
      have HB2 := Lib.hid (keep_below hb2 HD1.out)
      have x2 := keepU x2 hb2
      clear hb2
      go_wp2_with fail
      go_ret
      exact ⟨rfl, HB2.out⟩
  · have hd0 : decide (0 ≤ d) = false := decide_eq_false h0
    have hres : (decide ((0 : Int) ≤ d) && (decide (d < x.bd.length) && hereD aw ds d.toNat)) = false := by rw [hd0]; rfl
    rw [hres]
    clear hres h0
    go_wp2_with fail
    rw [HW1.out]
    go_wp2_with fail
    refine HR.out.mono ?_
    rintro e w2 ⟨rfl, hb2⟩
    have HB2 := Lib.hid (keep_below hb2 HD1.out)
    have x2 := keepU x2 hb2
    clear hb2
    go_wp2_with fail
    go_ret
    exact ⟨rfl, HB2.out⟩
/-- The zero Devs are no measure's. -/

theorem slot_any (t : Nat) (ht : t ≤ 4294967295) (w : World) : Calls Tryz.prog 44 #[.int .i64 (t : Int)] w fun e w' => e = .returned (.int .i64 ((t % 4 * 4 : Nat) : Int)) ∧ Below w.heap.size w w' := by
  have h1 : Int.tmod (t : Int) 4 = ((t % 4 : Nat) : Int) := by rw [Int.tmod_eq_emod_of_nonneg (by omega)]; omega
  go_enter Tryz.func44, Tryz.ntmps44
  go_wp2_with fail
  go_ret
  exact ⟨by simp, Below.refl _ _⟩
theorem vwr_any {w : World} {S : Nat → Nat → Prop} {U : Nat → Prop} {y : VX} {aw : List Bool} {ds : List DevD} (h : VdIn w S U y aw ds) {N : Nat} (ok : DsOk N y.secs ds) (hN : N ≤ 1000000) {i b : Nat} {d : DevD} (hb : y.bd[i]? = some b) (hd : ds[i]? = some d) (a : Int) (s : List UInt8) (hl : s.length ≤ 9223372036854775807) :
    Calls Tryz.prog 43 #[.pointer (some ⟨b, 0, none⟩), .int .i64 a, str s] w fun e w' => e = .returned (.int .i64 (d.wrE a s)) ∧ (∃ S', VdIn w' S' U y aw (ds.set i (d.wr a s))) ∧ Stays U w w' := by
  obtain ⟨o1, o2, o3, o4⟩ := ok d (List.mem_of_getElem? hd)
  refine (write_any (h.dev i b d hb hd) a s o1 (fun k => Nat.le_trans (o4 k) hN) hl).mono ?_
  rintro e w' ⟨rfl, hd', ho⟩
  exact ⟨rfl, ⟨_, h.step hb ho hd' (by rw [DevD.wr_med]; exact o2)⟩, Only.mono ho (fun g _ hg hU => h.fx i g hg hU)⟩
theorem putD_here {aw : List Bool} {ds : List DevD} {c : Col} {t : List UInt8} (i : Nat) : hereD aw (putD aw ds c t) i = hereD aw ds i := by
  have h := putD_lost (aw := aw) (ds := ds) (c := c) (t := t) i
  unfold hereD
  cases h1 : (putD aw ds c t)[i]? with
  | none =>
    rw [h1] at h
    cases h2 : ds[i]? with
    | none => rfl
    | some d => rw [h2] at h; cases h
  | some e =>
    rw [h1] at h
    cases h2 : ds[i]? with
    | none => rw [h2] at h; cases h
    | some d =>
      rw [h2] at h
      simp at h
      simp only [h]
theorem putD_no {aw : List Bool} {ds : List DevD} {c : Col} {t : List UInt8} (h : hereD aw ds c.1.toNat = false) : putD aw ds c t = ds := by
  unfold putD
  unfold hereD at h
  cases hd : ds[c.1.toNat]? with
  | none => rfl
  | some d =>
    rw [hd] at h
    dsimp only at h ⊢
    rw [h]
    rfl
theorem putD_yes {aw : List Bool} {ds : List DevD} {c : Col} {t : List UInt8} {d : DevD} (h : hereD aw ds c.1.toNat = true) (hd : ds[c.1.toNat]? = some d) : putD aw ds c t = ds.set c.1.toNat (d.wr c.2.1 t) ∧ d.lost = false := by
  unfold putD
  unfold hereD at h
  rw [hd] at h ⊢
  dsimp only at h ⊢
  rw [h]
  simp only [Bool.and_eq_true, Bool.not_eq_true'] at h
  exact ⟨rfl, h.2⟩
theorem sec_cut (s : List UInt8) (W : World) (j : Nat) (hj : j * 64 + 64 ≤ s.length) (a b : Int) (ha : a = j * 64) (hb : b = j * 64 + 64) : (Instr.slice 9 (str s) (some (.int .i64 a)) (some (.int .i64 b)) none).run Tryz.prog W = .ok (str (secAt s j)) W := by
  subst ha hb
  have := run_slice_string (P := Tryz.prog) W 9 (ByteArray.mk s.toArray) .i64 .i64 ((j : Int) * 64) ((j : Int) * 64 + 64) Tryz.underlying9 (by omega) (by omega) (by simp [ByteArray.size]; omega)
  rw [this]
  have e1 : ((j : Int) * 64).toNat = j * 64 := by omega
  have e2 : ((j : Int) * 64 + 64).toNat = j * 64 + 64 := by omega
  have e3 : (ByteArray.mk s.toArray).extract (j * 64) (j * 64 + 64) = ⟨(secAt s j).toArray⟩ := by
    apply ByteArray.ext
    have h6 : (j * 64 + 64) - j * 64 = 64 := by omega
    simp only [secAt, ByteArray.data_extract, List.extract_toArray, List.extract_eq_take_drop, h6]
  rw [e1, e2, e3]
/-- A device's slot is written, as far as sector k; all devices', as far as d. -/
def ubCol (d base i : Nat) : Col := ((d : Int), ((base + i : Nat) : Int), false, 0)
def ubPut (aw : List Bool) (d base : Nat) (s : List UInt8) (ds : List DevD) (k : Nat) : List DevD := (List.range k).foldl (fun ds i => putD aw ds (ubCol d base i) (secAt s i)) ds
def ubAll (aw : List Bool) (base : Nat) (s : List UInt8) (ds : List DevD) (d : Nat) : List DevD := (List.range d).foldl (fun ds d => ubPut aw d base s ds 4) ds
theorem ubPut_step (aw : List Bool) (d base : Nat) (s : List UInt8) (ds : List DevD) (k : Nat) : ubPut aw d base s ds (k + 1) = putD aw (ubPut aw d base s ds k) (ubCol d base k) (secAt s k) := by
  unfold ubPut
  rw [List.range_succ, List.foldl_append]
  rfl
theorem ubAll_step (aw : List Bool) (base : Nat) (s : List UInt8) (ds : List DevD) (d : Nat) : ubAll aw base s ds (d + 1) = ubPut aw d base s (ubAll aw base s ds d) 4 := by
  unfold ubAll
  rw [List.range_succ, List.foldl_append]
  rfl
section
variable {aw : List Bool} {base : Nat} {s : List UInt8} {ds : List DevD}
theorem ubPut_len {d : Nat} : ∀ k, (ubPut aw d base s ds k).length = ds.length
  | 0 => rfl
  | k + 1 => by rw [ubPut_step, putD_len, ubPut_len k]
theorem ubPut_here {d : Nat} (i : Nat) : ∀ k, hereD aw (ubPut aw d base s ds k) i = hereD aw ds i
  | 0 => rfl
  | k + 1 => by rw [ubPut_step, putD_here, ubPut_here i k]
theorem ubPut_ok {d N secs : Nat} (h : DsOk N secs ds) : ∀ k, DsOk (N + k) secs (ubPut aw d base s ds k)
  | 0 => h
  | k + 1 => by rw [ubPut_step]; exact putD_ok (ubPut_ok h k)
theorem ubAll_len : ∀ d, (ubAll aw base s ds d).length = ds.length
  | 0 => rfl
  | d + 1 => by rw [ubAll_step, ubPut_len, ubAll_len d]
theorem ubAll_here (i : Nat) : ∀ d, hereD aw (ubAll aw base s ds d) i = hereD aw ds i
  | 0 => rfl
  | d + 1 => by rw [ubAll_step, ubPut_here, ubAll_here i d]
theorem ubAll_ok {N secs : Nat} (h : DsOk N secs ds) : ∀ d, DsOk (N + 4 * d) secs (ubAll aw base s ds d)
  | 0 => h
  | d + 1 => by
    rw [ubAll_step, show N + 4 * (d + 1) = N + 4 * d + 4 by omega]
    exact ubPut_ok (ubAll_ok h d) 4
end
def uwD (gs : List (Int × Int)) (secs : Int) (aw : List Bool) (t n : Int) (p : PtrD) (ds : List DevD) : List DevD := if ubOk gs secs t n p then ubAll aw (t.toNat % 4 * 4) (ubL gs secs t n p) ds ds.length else ds
def uwN (gs : List (Int × Int)) (secs : Int) (aw : List Bool) (t n : Int) (p : PtrD) (ds : List DevD) : Nat := if ubOk gs secs t n p then goneN aw ds ds.length else 0
def uwE (gs : List (Int × Int)) (secs : Int) (aw : List Bool) (t n : Int) (p : PtrD) (ds : List DevD) : Int := if ubOk gs secs t n p then (if goneN aw ds ds.length = ds.length then 6 else 0) else 1
set_option maxRecDepth 20000 in
set_option maxHeartbeats 4000000 in
theorem uwrite_any {w : World} {S : Nat → Nat → Prop} {U : Nat → Prop} {y : VX} {aw : List Bool} {ds : List DevD} (h : VdIn w S U y aw ds) (few : y.bd.length ≤ 1000) {N : Nat} (ok : DsOk N y.secs ds) (hN : N ≤ 800000) (hs24 : 24 ≤ y.secs) (t n : Int) (p : PtrD) (op : p.Ok) :
    Calls Tryz.prog 13 #[y.val, .agg #[.int .i64 t, .int .i64 n, .int .i64 p.ag, .int .i64 p.aa, .int .i64 p.bg, .int .i64 p.ba, .bool p.two, .int .i64 p.size, .int .i64 p.level, .int .i64 p.birth, .int .u64 p.s0, .int .u64 p.s1, .int .u64 p.s2, .int .u64 p.s3]] w fun e w' => e = .returned (.tuple #[.int .i64 (uwN y.gs y.secs aw t n p ds : Nat), .int .i64 (uwE y.gs y.secs aw t n p ds)]) ∧ (∃ S', VdIn w' S' U y aw (uwD y.gs y.secs aw t n p ds)) ∧ Stays U w w' := by
  obtain ⟨w2, hw2⟩ : ∃ z, (w.alloc (.cells y.cells 50)).alloc (.cells #[.int .i64 t, .int .i64 n, .int .i64 p.ag, .int .i64 p.aa, .int .i64 p.bg, .int .i64 p.ba, .bool p.two, .int .i64 p.size, .int .i64 p.level, .int .i64 p.birth, .int .u64 p.s0, .int .u64 p.s1, .int .u64 p.s2, .int .u64 p.s3] 35) = z := ⟨_, rfl⟩
  have B1 : Blk w2 w.heap.size 50 y.cells := by rw [← hw2]; exact (Blk.new _ _ _).alloc _
  have B2 : Blk w2 (w.heap.size + 1) 35 #[.int .i64 t, .int .i64 n, .int .i64 p.ag, .int .i64 p.aa, .int .i64 p.bg, .int .i64 p.ba, .bool p.two, .int .i64 p.size, .int .i64 p.level, .int .i64 p.birth, .int .u64 p.s0, .int .u64 p.s1, .int .u64 p.s2, .int .u64 p.s3] := by rw [← hw2]; exact Blk.new2 _ _ _ _
  have D2 : Below w.heap.size w w2 := by rw [← hw2]; exact keep_alloc (keep_alloc (Below.refl _ _) _) _
  have hV2 := h.below D2
  have HUB := Lib.hid (ubytes_any (some ⟨y.gb, 0, none⟩) y.m y.cc y.gs y.secs t n p w2 hV2.geo op)
  obtain ⟨us, hus⟩ : ∃ us, ubS y.gs y.secs t n p = us := ⟨_, rfl⟩
  obtain ⟨ue, hue⟩ : ∃ ue, ubE y.gs y.secs t n p = ue := ⟨_, rfl⟩
  rw [hus, hue] at HUB
  have HUU := Lib.hid (And.intro hus hue)
  have HH := Lib.hid (And.intro h (And.intro ok op))
  have HB := Lib.hid (And.intro B1 (And.intro B2 D2))
  have HW2 := Lib.hid hw2
  have x0 := (B1).at_ (i := 0) (v := .slice (some ⟨y.gb, 0, none⟩) y.m y.cc) rfl
  have x1 := (B1).at_ (i := 1) (v := .int .i64 y.secs) rfl
  have x2 := (B1).at_ (i := 2) (v := .slice (some ⟨y.lb, 0, none⟩) y.bd.length y.lc) rfl
  have x3 := (B1).at_ (i := 3) (v := .slice (some ⟨y.ab, 0, none⟩) y.bd.length y.bd.length) rfl
  have u0 := (B2).at_ (i := 0) (v := .int .i64 t) rfl
  have u1 := (B2).at_ (i := 1) (v := .int .i64 n) rfl
  have u2 := (B2).at_ (i := 2) (v := .int .i64 p.ag) rfl
  have u3 := (B2).at_ (i := 3) (v := .int .i64 p.aa) rfl
  have u4 := (B2).at_ (i := 4) (v := .int .i64 p.bg) rfl
  have u5 := (B2).at_ (i := 5) (v := .int .i64 p.ba) rfl
  have u6 := (B2).at_ (i := 6) (v := .bool p.two) rfl
  have u7 := (B2).at_ (i := 7) (v := .int .i64 p.size) rfl
  have u8 := (B2).at_ (i := 8) (v := .int .i64 p.level) rfl
  have u9 := (B2).at_ (i := 9) (v := .int .i64 p.birth) rfl
  have ua := (B2).at_ (i := 10) (v := .int .u64 p.s0) rfl
  have ub := (B2).at_ (i := 11) (v := .int .u64 p.s1) rfl
  have uc := (B2).at_ (i := 12) (v := .int .u64 p.s2) rfl
  have ud := (B2).at_ (i := 13) (v := .int .u64 p.s3) rfl
  rw [← hw2] at x0 x1 x2 x3 u0 u1 u2 u3 u4 u5 u6 u7 u8 u9 ua ub uc ud
  clear h ok op B1 B2 D2 hV2 hus hue hw2
  go_enter Tryz.func13, Tryz.ntmps13
  go_wp2_with fail
  rw [HW2.out]
  refine HUB.out.mono ?_
  rintro e w3 ⟨rfl, hb3⟩
  have HB3 := Lib.hid (And.intro (HB.out.1.below hb3 HB.out.1.lt) (And.intro (HB.out.2.1.below hb3 HB.out.2.1.lt) (keep_below hb3 HB.out.2.2)))
  have HVR := Lib.hid (vright_any (HH.out.1.below HB3.out.2.2) few)
  clear x0 x1 x2 x3 u0 u1 u2 u3 u4 u5 u6 u7 u8 u9 ua ub uc ud hb3
  have x0 := (HB3.out.1).at_ (i := 0) (v := .slice (some ⟨y.gb, 0, none⟩) y.m y.cc) rfl
  have x1 := (HB3.out.1).at_ (i := 1) (v := .int .i64 y.secs) rfl
  have x2 := (HB3.out.1).at_ (i := 2) (v := .slice (some ⟨y.lb, 0, none⟩) y.bd.length y.lc) rfl
  have x3 := (HB3.out.1).at_ (i := 3) (v := .slice (some ⟨y.ab, 0, none⟩) y.bd.length y.bd.length) rfl
  go_wp2_with fail
  refine HVR.out.mono ?_
  rintro e w4 ⟨rfl, hb4⟩
  have HB4 := Lib.hid (And.intro (HB3.out.1.below hb4 HB3.out.1.lt) (And.intro (HB3.out.2.1.below hb4 HB3.out.2.1.lt) (keep_below hb4 HB3.out.2.2)))
  clear x0 x1 x2 x3 hb4
  cases hok : ubOk y.gs y.secs t n p with
  | false =>
    obtain rfl : ue = 1 := by rw [← HUU.out.2]; unfold ubE; rw [hok]; rfl
    have HE : Hid (uwN y.gs y.secs aw t n p ds = 0 ∧ uwE y.gs y.secs aw t n p ds = 1 ∧ uwD y.gs y.secs aw t n p ds = ds) := Lib.hid (by unfold uwN uwE uwD; rw [hok]; exact ⟨rfl, rfl, rfl⟩)
    clear hok
    go_wp2_with fail
    refine bodyPost_ret (v := .tuple #[.int .i64 0, .int .i64 1]) (by simp [results, Tryz.f13, go_sem]) rfl ⟨by rw [HE.out.1, HE.out.2.1]; rfl, ⟨S, by rw [HE.out.2.2]; exact HH.out.1.below HB4.out.2.2⟩, stays_below HB4.out.2.2⟩
  | true =>
    have hpar := hok
    unfold ubOk at hpar
    simp only [Bool.and_eq_true, decide_eq_true_eq] at hpar
    obtain ⟨tn, rfl⟩ := Int.eq_ofNat_of_zero_le (show 0 ≤ t by omega)
    have htn : tn ≤ 4294967295 := by omega
    obtain rfl : ue = 0 := by rw [← HUU.out.2]; unfold ubE; rw [hok]; rfl
    have husl : us.length = 256 := by rw [← HUU.out.1]; unfold ubS; rw [if_pos hok]; exact ubL_len hpar.2.2.2 HH.out.2.2
    obtain ⟨base, hbase⟩ : ∃ base, tn % 4 * 4 = base := ⟨_, rfl⟩
    have hb12 : base ≤ 12 := by omega
    have HE : Hid (uwN y.gs y.secs aw tn n p ds = goneN aw ds y.bd.length ∧ uwE y.gs y.secs aw tn n p ds = (if goneN aw ds y.bd.length = y.bd.length then 6 else 0) ∧ uwD y.gs y.secs aw tn n p ds = ubAll aw base us ds y.bd.length) := Lib.hid (by
      have h1 : ubS y.gs y.secs tn n p = ubL y.gs y.secs tn n p := by unfold ubS; rw [if_pos hok]
      rw [← HUU.out.1, h1, ← hbase, ← HH.out.1.n2]
      unfold uwN uwE uwD
      rw [hok, Int.toNat_natCast]
      exact ⟨rfl, rfl, rfl⟩)
    have HSL := Lib.hid fun W => slot_any tn htn W
    rw [hbase] at HSL
    obtain ⟨U1, hU1⟩ : ∃ U1, U1 = more U w w4 := ⟨_, rfl⟩
    have hV4 : VdIn w4 S U1 y aw ds := by rw [hU1]; exact HH.out.1.more HB4.out.2.2
    have hu1 : U1 w.heap.size ∧ U1 (w.heap.size + 1) ∧ ∀ b, U b → U1 b := by rw [hU1]; exact ⟨.inr ⟨Nat.le_refl _, HB4.out.1.lt⟩, .inr ⟨Nat.le_succ _, HB4.out.2.1.lt⟩, fun b hb => .inl hb⟩
    have HV4 := Lib.hid hV4
    have HU1 := Lib.hid hu1
    have x0 := (HB4.out.1).at_ (i := 0) (v := .slice (some ⟨y.gb, 0, none⟩) y.m y.cc) rfl
    have x1 := (HB4.out.1).at_ (i := 1) (v := .int .i64 y.secs) rfl
    have x2 := (HB4.out.1).at_ (i := 2) (v := .slice (some ⟨y.lb, 0, none⟩) y.bd.length y.lc) rfl
    have x3 := (HB4.out.1).at_ (i := 3) (v := .slice (some ⟨y.ab, 0, none⟩) y.bd.length y.bd.length) rfl
    clear hok hpar hbase hU1 hV4 hu1
    go_wp2_with fail
    go_loopw [8, 9, 10, 11, 29] (fun f _ _ _ t wr => ∃ (k : Nat) (S' : Nat → Nat → Prop), k ≤ y.bd.length ∧ t = .int .i64 k ∧ f = .int .i64 (goneN aw ds k : Nat) ∧ VdIn wr S' U1 y aw (ubAll aw base us ds k) ∧ Stays U1 w4 wr) (fun _ _ _ _ t _ => y.bd.length - (RowKit.intOf t).toNat)
    case atStart => exact ⟨0, S, Nat.zero_le _, rfl, rfl, HV4.out, stays_refl _⟩
    case round =>
      obtain ⟨k, S', hk, rfl, rfl, hVr, hst⟩ := hrel
      have hgn := goneN_le (aw := aw) (ds := ds) k
      have hgs := goneN_step (aw := aw) (ds := ds) k
      have hxr : Blk wr w.heap.size 50 y.cells := (hst.heap HU1.out.1 HB4.out.1.lt).trans HB4.out.1
      have hur : Blk wr (w.heap.size + 1) 35 #[.int .i64 tn, .int .i64 n, .int .i64 p.ag, .int .i64 p.aa, .int .i64 p.bg, .int .i64 p.ba, .bool p.two, .int .i64 p.size, .int .i64 p.level, .int .i64 p.birth, .int .u64 p.s0, .int .u64 p.s1, .int .u64 p.s2, .int .u64 p.s3] := (hst.heap HU1.out.2.1 HB4.out.2.1.lt).trans HB4.out.2.1
      have HVR := Lib.hid hVr
      have HST := Lib.hid hst
      clear x0 x1 x2 x3
      by_cases hlt : k < y.bd.length
      · obtain ⟨DK, hDK⟩ : ∃ DK, ubAll aw base us ds k = DK := ⟨_, rfl⟩
        obtain ⟨hk', hhk⟩ : ∃ hk', hereD aw ds k = hk' := ⟨_, rfl⟩
        have hhD : hereD aw DK k = hk' := by rw [← hDK, ubAll_here]; exact hhk
        have hokD : DsOk (N + 4 * k) y.secs DK := by rw [← hDK]; exact ubAll_ok HH.out.2.1 k
        have hnx : ubAll aw base us ds (k + 1) = ubPut aw k base us DK 4 := by rw [ubAll_step, hDK]
        rw [hDK] at HVR
        rw [hhk] at hgs
        obtain ⟨g0, hg0⟩ : ∃ g0, goneN aw ds k = g0 := ⟨_, rfl⟩
        rw [hg0] at hgs hgn ⊢
        have hhe := vHere_any HVR.out few (k : Int)
        rw [show (decide ((0 : Int) ≤ k) && (decide ((k : Int) < y.bd.length) && hereD aw DK (k : Int).toNat)) = hk' by rw [decide_eq_true (show (0 : Int) ≤ k by omega), decide_eq_true (show (k : Int) < y.bd.length by omega), Int.toNat_natCast, hhD]; rfl] at hhe
        have HHE := Lib.hid hhe
        have HXR := Lib.hid (And.intro hxr hur)
        have HKK := Lib.hid (And.intro hhD (And.intro hokD (And.intro hnx hgs)))
        have hd1 : decide (k < y.bd.length) = true := decide_eq_true hlt
        have x0 := (hxr).at_ (i := 0) (v := .slice (some ⟨y.gb, 0, none⟩) y.m y.cc) rfl
        have x1 := (hxr).at_ (i := 1) (v := .int .i64 y.secs) rfl
        have x2 := (hxr).at_ (i := 2) (v := .slice (some ⟨y.lb, 0, none⟩) y.bd.length y.lc) rfl
        have x3 := (hxr).at_ (i := 3) (v := .slice (some ⟨y.ab, 0, none⟩) y.bd.length y.bd.length) rfl
        clear hDK hhk hhD hokD hnx hg0 hgs hhe hxr hur hVr hst
        go_wp2_with fail
        refine HHE.out.mono ?_
        rintro e w5 ⟨rfl, hb5⟩
        have HV5 := Lib.hid (HVR.out.below hb5)
        have HX5 := Lib.hid (And.intro (HXR.out.1.below hb5 HXR.out.1.lt) (HXR.out.2.below hb5 HXR.out.2.lt))
        have HS5 := Lib.hid (HST.out.trans (stays_below hb5))
        clear x0 x1 x2 x3 hb5
        go_wp2_with fail
        go_loopw [10, 11, 35] (fun okv _ t wr => ∃ (i : Nat) (S2 : Nat → Nat → Prop), i ≤ 4 ∧ t = .int .i64 i ∧ okv = .bool hk' ∧ VdIn wr S2 U1 y aw (ubPut aw k base us DK i) ∧ Stays U1 w5 wr) (fun _ _ t _ => 4 - (RowKit.intOf t).toNat)
        case atStart => exact ⟨0, _, Nat.zero_le _, rfl, rfl, HV5.out, stays_refl _⟩
        case round =>
          obtain ⟨i, S2, hi, rfl, rfl, hVi, hsi⟩ := hrel
          have HVI := Lib.hid hVi
          have HSI := Lib.hid hsi
          have hps := ubPut_step aw k base us DK i
          have hxi : Blk wr w.heap.size 50 y.cells := (hsi.heap HU1.out.1 HX5.out.1.lt).trans HX5.out.1
          have hui : Blk wr (w.heap.size + 1) 35 #[.int .i64 tn, .int .i64 n, .int .i64 p.ag, .int .i64 p.aa, .int .i64 p.bg, .int .i64 p.ba, .bool p.two, .int .i64 p.size, .int .i64 p.level, .int .i64 p.birth, .int .u64 p.s0, .int .u64 p.s1, .int .u64 p.s2, .int .u64 p.s3] := (hsi.heap HU1.out.2.1 HX5.out.2.lt).trans HX5.out.2
          by_cases hlt4 : i < 4
          · have hd4 : decide (i < 4) = true := decide_eq_true hlt4
            cases hk' with
            | false =>
              have HNX : Hid (ubPut aw k base us DK (i + 1) = ubPut aw k base us DK i) := Lib.hid (by rw [hps]; exact putD_no (by show hereD aw _ (k : Int).toNat = false; rw [Int.toNat_natCast, ubPut_here]; exact HKK.out.1))
              obtain ⟨C, hCd, hCw, hCB, hCK, hCD⟩ := cls_below wr
              have f0 : ∀ W, C W → W.cell? ⟨w.heap.size, 1, none⟩ = some (.int .i64 y.secs) := fun W h => keepU (hxi.at_ rfl) (hCB W h)
              have HC := Lib.hid hCB
              clear hps hxi hui hVi hsi hCw hCB hCK hCD
              go_wp2_with fail
              refine wp_region_cls C (by kernel_rfl) (by kernel_rfl) hCd ?_
              repeat (first
                | go_big_quiet_skip
                | (go_big_quiet_want
                   go_big_quiet_op
                   first
                     | go_big_quiet_on
                     | (apply Exists.intro
                        refine ⟨fun W hW => ?_, ?_⟩
                        · first
                            | exact rfl
                            | exact ⟨rfl, rfl⟩
                            | (have e0 := f0 W hW; simp only [e0, Result.andThen_ok]; done)
                            | (have e0 := f0 W hW; simp only [e0, Result.andThen_ok]; first | exact ⟨trivial, rfl⟩ | exact rfl | exact ⟨rfl, rfl⟩)
                            | (skip)
                        go_big_quiet_on)))
              refine wpQuiet_nil ?_
              intro wz hwz
              have HVZ := Lib.hid (HVI.out.below (HC.out wz hwz))
              have HSZ := Lib.hid (HSI.out.trans (stays_below (HC.out wz hwz)))
              clear f0 hCd hwz
              go_wp2_with fail
              go_roundw
              case rel => exact ⟨i + 1, _, hlt4, by go_num, rfl, by rw [HNX.out]; exact HVZ.out, HSZ.out⟩
              case measure => simp [RowKit.intOf]; omega
            | true =>
              obtain ⟨b, hb⟩ : ∃ b, y.bd[k]? = some b := ⟨_, List.getElem?_eq_getElem hlt⟩
              obtain ⟨DI, hDI⟩ : ∃ DI, ubPut aw k base us DK i = DI := ⟨_, rfl⟩
              rw [hDI] at hps HVI
              have hlen : DI.length = y.bd.length := HVI.out.n2
              obtain ⟨d, hd⟩ : ∃ d, DI[k]? = some d := ⟨_, List.getElem?_eq_getElem (by omega)⟩
              have hokI : DsOk (N + 4 * k + i) y.secs DI := by rw [← hDI]; exact ubPut_ok HKK.out.2.1 i
              have hhI : hereD aw DI ((k : Int)).toNat = true := by rw [Int.toNat_natCast, ← hDI, ubPut_here]; exact HKK.out.1
              obtain ⟨hy1, hy2⟩ := putD_yes (c := ubCol k base i) (t := secAt us i) (d := d) hhI (by show DI[(k : Int).toNat]? = some d; rw [Int.toNat_natCast]; exact hd)
              have hsl : (secAt us i).length = 64 := secAt_len (by unfold secN; omega)
              have hwr0 : d.wrE ((base + i : Nat) : Int) (secAt us i) = 0 := wrE_all hokI (List.mem_of_getElem? hd) hy2 (by omega) (by omega) hsl
              have HWR := Lib.hid (fun (W : World) (hW : VdIn W S2 U1 y aw DI) => vwr_any hW hokI (by omega) hb hd ((base + i : Nat) : Int) (secAt us i) (by omega))
              have hnx : ubPut aw k base us DK (i + 1) = DI.set k (d.wr ((base + i : Nat) : Int) (secAt us i)) := by
                rw [hps, hy1]
                show DI.set (k : Int).toNat _ = _
                rw [Int.toNat_natCast]
                rfl
              simp only [hwr0] at HWR
              have hrow := HVI.out.row k b hb
              obtain ⟨sc, hsc⟩ : ∃ sc, secAt us i = sc := ⟨_, rfl⟩
              have hcut := fun W => sec_cut us W i (by omega) ((i : Int) * 64) (((i : Int) + 1) * 64) rfl (by omega)
              rw [hsc] at hnx
              simp only [hsc] at HWR hcut
              obtain ⟨at_, hat⟩ : ∃ at_ : Int, ((base + i : Nat) : Int) = at_ := ⟨_, rfl⟩
              rw [hat] at hnx
              simp only [hat] at HWR
              have ha : IntKind.i64.wrap ((base : Int) + (i : Int)) = at_ := by rw [IntKind.wrap_i64]; omega
              have hm1 : IntKind.i64.wrap ((i : Int) * 64) = (i : Int) * 64 := by rw [IntKind.wrap_i64]; omega
              have hm2 : IntKind.i64.wrap ((i : Int) + 1) = (i : Int) + 1 := by rw [IntKind.wrap_i64]; omega
              have hm3 : IntKind.i64.wrap (((i : Int) + 1) * 64) = ((i : Int) + 1) * 64 := by rw [IntKind.wrap_i64]; omega
              have HNX := Lib.hid hnx
              obtain ⟨S0, hS0⟩ : ∃ S0 : World → Prop, S0 = fun W => ∀ g, (g = w.heap.size ∨ g = w.heap.size + 1 ∨ g = y.lb) → W.heap[g]? = wr.heap[g]? := ⟨_, rfl⟩
              have hlb : y.lb < wr.heap.size := HVI.out.us _ HVI.out.ul
              have f0 : ∀ W, S0 W → W.cell? ⟨w.heap.size, 1, none⟩ = some (.int .i64 y.secs) := fun W h => by rw [hS0] at h; exact (cell_same' (h _ (.inl rfl))).trans (hxi.at_ rfl)
              have f1 : ∀ W, S0 W → W.cell? ⟨w.heap.size, 2, none⟩ = some (.slice (some ⟨y.lb, 0, none⟩) y.bd.length y.lc) := fun W h => by rw [hS0] at h; exact (cell_same' (h _ (.inl rfl))).trans (hxi.at_ rfl)
              have f2 : ∀ W, S0 W → W.cell? ⟨w.heap.size + 1, 0, none⟩ = some (.int .i64 (tn : Int)) := fun W h => by rw [hS0] at h; exact (cell_same' (h _ (.inr (.inl rfl)))).trans (hui.at_ rfl)
              have f3 : ∀ W, S0 W → W.cell? ⟨y.lb, k, none⟩ = some (.pointer (some ⟨b, 0, none⟩)) := fun W h => by rw [hS0] at h; exact (cell_same' (h _ (.inr (.inr rfl)))).trans hrow
              have hSw : S0 wr.drew := by rw [hS0]; exact fun _ _ => rfl
              have hCK : ∀ W W', S0 W → Below W.heap.size W W' → S0 W' := fun W W' h hbW => by
                rw [hS0] at h ⊢
                intro g hg
                have hgl : g < W.heap.size := by
                  have h1 := h g hg
                  have h2 : g < wr.heap.size := by
                    rcases hg with rfl | rfl | rfl
                    · exact hxi.lt
                    · exact hui.lt
                    · exact hlb
                  rw [Array.getElem?_eq_getElem h2] at h1
                  exact (Array.getElem?_eq_some_iff.1 h1).1
                exact (hbW.block g hgl).trans (h g hg)
              have hSe : ∀ W, Stays U1 wr W → S0 W := fun W hW => by
                rw [hS0]
                intro g hg
                have hg' : U1 g ∧ g < wr.heap.size := by
                  rcases hg with rfl | rfl | rfl
                  · exact ⟨HU1.out.1, hxi.lt⟩
                  · exact ⟨HU1.out.2.1, hui.lt⟩
                  · exact ⟨HVI.out.ul, hlb⟩
                exact hW.heap hg'.1 hg'.2
              have HSE := Lib.hid hSe
              clear hps hDI hlen hd hokI hhI hy1 hy2 hsl hwr0 hnx hrow hsc hat hb hS0 hSe hxi hui hVi hsi hlb
              go_wp2_with fail
              refine Pl.wp_region_plan S0 [9, 19] (Pl.Plan.seg 0 9 (.op 9 (Pl.Plan.seg 10 9 (.op 19 (Pl.Plan.seg 20 3 .done))))) (by kernel_rfl) (by kernel_rfl) hSw ?_
              refine Pl.wpPlan_take (k := 0) 9 (by kernel_rfl) (by kernel_rfl) ?_
              simp only [List.take_succ_cons, List.take_zero, List.drop_succ_cons, List.drop_zero]
              repeat (first
                | go_big_quiet_skip
                | (go_big_quiet_want
                   go_big_quiet_op
                   first
                     | go_big_quiet_on
                     | (apply Exists.intro
                        refine ⟨fun W hW => ?_, ?_⟩
                        · first
                            | exact rfl
                            | exact ⟨rfl, rfl⟩
                            | (have e0 := f0 W hW; have e1 := f1 W hW; have e2 := f2 W hW; have e3 := f3 W hW; simp only [e0, e1, e2, e3, Result.andThen_ok]; done)
                            | (have e0 := f0 W hW; have e1 := f1 W hW; have e2 := f2 W hW; have e3 := f3 W hW; simp only [e0, e1, e2, e3, Result.andThen_ok]; first | exact ⟨trivial, rfl⟩ | exact rfl | exact ⟨rfl, rfl⟩)
                            | (skip)
                        go_big_quiet_on)))
              refine wpQuiet_nil ?_
              refine Pl.efOp_any rfl rfl ?_
              go_wp2_with fail
              refine (HSL.out _).mono ?_
              rintro e wq ⟨rfl, hbq⟩
              have hSq := hCK _ _ hSw hbq
              have hbq' : Below wr.heap.size wr wq := ⟨hbq.os, hbq.tape, hbq.output, hbq.size, hbq.block⟩
              have HVQ := Lib.hid (HVI.out.below hbq')
              have HSQ := Lib.hid hbq'
              clear hbq hbq' hSw
              go_wp2_with fail
              refine ⟨rfl, hSq, ?_⟩
              refine Pl.wpPlan_take (k := 10) 9 (by kernel_rfl) (by kernel_rfl) ?_
              simp only [List.take_succ_cons, List.take_zero, List.drop_succ_cons, List.drop_zero]
              repeat (first
                | go_big_quiet_skip
                | (go_big_quiet_want
                   go_big_quiet_op
                   first
                     | go_big_quiet_on
                     | (apply Exists.intro
                        refine ⟨fun W hW => ?_, ?_⟩
                        · first
                            | exact rfl
                            | exact ⟨rfl, rfl⟩
                            | (have e0 := hcut W hW; simp only [e0, Result.andThen_ok]; done)
                            | (have e0 := hcut W hW; simp only [e0, Result.andThen_ok]; first | exact ⟨trivial, rfl⟩ | exact rfl | exact ⟨rfl, rfl⟩)
                            | (skip)
                        go_big_quiet_on)))
              refine wpQuiet_nil ?_
              refine Pl.efOp_any rfl rfl ?_
              clear f1 f2 f3 hcut ha hm1 hm2 hm3
              go_wp2_with fail
              refine (HWR.out _ HVQ.out).mono ?_
              rintro e w6 ⟨rfl, ⟨S3, hV6⟩, hst6⟩
              have hst6' : Stays U1 wr w6 := (stays_below HSQ.out).trans hst6
              have hS6 := HSE.out w6 hst6'
              have HF := Lib.hid (And.intro hV6 (HSI.out.trans hst6'))
              clear hV6 hst6 hst6' hSq
              go_wp2_with fail
              refine ⟨rfl, hS6, ?_⟩
              refine Pl.wpPlan_take (k := 20) 3 (by kernel_rfl) (by kernel_rfl) ?_
              simp only [List.take_succ_cons, List.take_zero, List.drop_succ_cons, List.drop_zero]
              repeat (first
                | go_big_quiet_skip
                | (go_big_quiet_want
                   go_big_quiet_op
                   first
                     | go_big_quiet_on
                     | (apply Exists.intro
                        refine ⟨fun W hW => ?_, ?_⟩
                        · first
                            | exact rfl
                            | exact ⟨rfl, rfl⟩
                            | (have e0 := f0 W hW; simp only [e0, Result.andThen_ok]; done)
                            | (have e0 := f0 W hW; simp only [e0, Result.andThen_ok]; first | exact ⟨trivial, rfl⟩ | exact rfl | exact ⟨rfl, rfl⟩)
                            | (skip)
                        go_big_quiet_on)))
              refine wpQuiet_nil ?_
              simp only [Pl.wpPlan]
              clear f0 hS6 hCK
              go_wp2_with fail
              go_roundw
              case rel => exact ⟨i + 1, S3, hlt4, by go_num, rfl, by rw [HNX.out]; exact HF.out.1, HF.out.2⟩
              case measure => simp [RowKit.intOf]; omega
          · obtain rfl : i = 4 := by omega
            have HFV : Hid (VdIn wr S2 U1 y aw (ubAll aw base us ds (k + 1))) := Lib.hid (by rw [HKK.out.2.2.1]; exact hVi)
            have HFS := Lib.hid (HS5.out.trans hsi)
            clear hVi hsi hps hxi hui hlt4 hi
            cases hk' with
            | false =>
              have hgs := HKK.out.2.2.2
              have HGS : Hid (goneN aw ds (k + 1) = g0 + 1) := Lib.hid hgs
              clear hgs
              go_wp2_with fail
              go_roundw
              case rel => exact ⟨k + 1, S2, hlt, by go_num, by rw [HGS.out]; go_num, HFV.out, HFS.out⟩
              case measure => simp [RowKit.intOf]; omega
            | true =>
              have hgs := HKK.out.2.2.2
              have HGS : Hid (goneN aw ds (k + 1) = g0) := Lib.hid hgs
              clear hgs
              go_wp2_with fail
              go_roundw
              case rel => exact ⟨k + 1, S2, hlt, by go_num, by rw [HGS.out], HFV.out, HFS.out⟩
              case measure => simp [RowKit.intOf]; omega
      · obtain rfl : k = y.bd.length := by omega
        have hd1 : decide (y.bd.length < y.bd.length) = false := decide_eq_false (by omega)
        have HFS : Hid (Stays U w wr) := Lib.hid ((stays_below HB4.out.2.2).trans (HST.out.mono HU1.out.2.2))
        have HFV : Hid (VdIn wr S' U y aw (ubAll aw base us ds y.bd.length)) := Lib.hid (HVR.out.narrow HU1.out.2.2 HH.out.1.ug HH.out.1.ul HH.out.1.ua)
        have x0 := (hxr).at_ (i := 0) (v := .slice (some ⟨y.gb, 0, none⟩) y.m y.cc) rfl
        have x1 := (hxr).at_ (i := 1) (v := .int .i64 y.secs) rfl
        have x2 := (hxr).at_ (i := 2) (v := .slice (some ⟨y.lb, 0, none⟩) y.bd.length y.lc) rfl
        have x3 := (hxr).at_ (i := 3) (v := .slice (some ⟨y.ab, 0, none⟩) y.bd.length y.bd.length) rfl
        obtain ⟨g0, hg0⟩ : ∃ g0, goneN aw ds y.bd.length = g0 := ⟨_, rfl⟩
        rw [hg0] at HE hgn ⊢
        clear hg0 hxr hur hVr hst hgs hlt hk
        by_cases hge : g0 = y.bd.length
        · have hqe : ((g0 : Int) == (y.bd.length : Int)) = true := by rw [beq_iff_eq]; omega
          have HE2 : Hid ((if g0 = y.bd.length then (6 : Int) else 0) = 6) := Lib.hid (if_pos hge)
          clear hge
          go_wp2_with fail
          refine bodyPost_ret (v := .tuple #[.int .i64 g0, .int .i64 6]) (by simp [results, Tryz.f13, go_sem]) rfl ⟨by rw [HE.out.1, HE.out.2.1, HE2.out], ⟨S', by rw [HE.out.2.2]; exact HFV.out⟩, HFS.out⟩
        · have hqe : ((g0 : Int) == (y.bd.length : Int)) = false := by rw [beq_eq_false_iff_ne]; omega
          have HE2 : Hid ((if g0 = y.bd.length then (6 : Int) else 0) = 0) := Lib.hid (if_neg hge)
          clear hge
          go_wp2_with fail
          refine bodyPost_ret (v := .tuple #[.int .i64 g0, .int .i64 0]) (by simp [results, Tryz.f13, go_sem]) rfl ⟨by rw [HE.out.1, HE.out.2.1, HE2.out], ⟨S', by rw [HE.out.2.2]; exact HFV.out⟩, HFS.out⟩
end Go.Proofs.YtlpbbjjibnbooaaGreatDoor
