/-
  Contracts: uber.On.
  Contracts: uber.Best.
-/
import Derived.Test.YtlpbbjjibnbooaaGreatDoorJ20
namespace Go.Proofs.YtlpbbjjibnbooaaGreatDoor
set_option linter.unusedVariables false
set_option linter.unusedSimpArgs false
open Go.RowKit

theorem cat_ok (a b : List UInt8) (h1 : a.length ≤ 1000) (h2 : b.length ≤ 1000) : ¬ 9223372036854775807 < (ByteArray.mk a.toArray).size + (ByteArray.mk b.toArray).size := by
  simp [ByteArray.size]
  omega
theorem rdS_le {d : DevD} (h : d.Ok) (a : Int) : (d.rdS a).length ≤ 64 := by
  unfold DevD.rdS
  split
  · rename_i hm
    obtain ⟨h1, h2, _⟩ := DevD.mayE_ok hm
    unfold DevD.now DevD.medAt
    refine Nat.le_of_eq (DevD.lastOr_len (h.cac _) (h.med _ ?_))
    rw [List.getD_eq_getElem?_getD, List.getElem?_eq_getElem (show a.toNat < d.med.length by omega)]
    exact List.getElem_mem _
  · exact Nat.zero_le _
/-- A device's slot, read. -/
def slotL (ds : List DevD) (d base i : Nat) : List UInt8 := ((List.range i).map fun j => look ds (ubCol d base j)).flatten
theorem slotL_step (ds : List DevD) (d base i : Nat) : slotL ds d base (i + 1) = slotL ds d base i ++ look ds (ubCol d base i) := by
  unfold slotL
  rw [List.range_succ, List.map_append, List.flatten_append]
  simp
theorem look_le {ds : List DevD} {N secs : Nat} (ok : DsOk N secs ds) (c : Col) : (look ds c).length ≤ 64 := by
  unfold look
  split
  · rename_i d hd
    exact rdS_le (ok d (List.mem_of_getElem? hd)).1 _
  · exact Nat.zero_le _
theorem slotL_le {ds : List DevD} {N secs : Nat} (ok : DsOk N secs ds) (d base : Nat) : ∀ i, (slotL ds d base i).length ≤ 64 * i
  | 0 => Nat.le_refl _
  | i + 1 => by
    rw [slotL_step, List.length_append]
    have := slotL_le ok d base i
    have := look_le ok (ubCol d base i)
    omega
def uoD (gs : List (Int × Int)) (secs : Int) (aw : List Bool) (ds : List DevD) (d slot : Nat) : UbD × Int := if hereD aw ds d then urD gs secs (slotL ds d (slot * 4) 4) else (ubZ, 6)
set_option maxRecDepth 20000 in
set_option maxHeartbeats 4000000 in
theorem uon_any {w : World} {S : Nat → Nat → Prop} {U : Nat → Prop} {y : VX} {aw : List Bool} {ds : List DevD} (h : VdIn w S U y aw ds) (few : y.bd.length ≤ 1000) {N : Nat} (ok : DsOk N y.secs ds) (d slot : Nat) (hd : d < y.bd.length) (hs : slot < 4) :
    Calls Tryz.prog 19 #[y.val, .int .i64 (d : Int), .int .i64 (slot : Int)] w fun e w' => e = .returned (.tuple #[.agg (uoD y.gs y.secs aw ds d slot).1.cells, .int .i64 (uoD y.gs y.secs aw ds d slot).2]) ∧ Below w.heap.size w w' := by
  have hbz := build_ubZ
  obtain ⟨w2, hw2⟩ : ∃ z, (w.alloc (.cells y.cells 50)).alloc (.cells #[.int .i64 0, .int .i64 0, .int .i64 0, .int .i64 0, .int .i64 0, .int .i64 0, .bool false, .int .i64 0, .int .i64 0, .int .i64 0, .int .u64 0, .int .u64 0, .int .u64 0, .int .u64 0] 35) = z := ⟨_, rfl⟩
  have B1 : Blk w2 w.heap.size 50 y.cells := by rw [← hw2]; exact (Blk.new _ _ _).alloc _
  have B2 : Blk w2 (w.heap.size + 1) 35 #[.int .i64 0, .int .i64 0, .int .i64 0, .int .i64 0, .int .i64 0, .int .i64 0, .bool false, .int .i64 0, .int .i64 0, .int .i64 0, .int .u64 0, .int .u64 0, .int .u64 0, .int .u64 0] := by rw [← hw2]; exact Blk.new2 _ _ _ _
  have D2 : Below w.heap.size w w2 := by rw [← hw2]; exact keep_alloc (keep_alloc (Below.refl _ _) _) _
  have HVR := Lib.hid (vright_any (h.below D2) few)
  have HH := Lib.hid (And.intro h ok)
  have HB := Lib.hid (And.intro B1 (And.intro B2 D2))
  have HW2 := Lib.hid hw2
  have hsec := (gRight_parts h.right).2.2.2.1
  have x0 := (B1).at_ (i := 0) (v := .slice (some ⟨y.gb, 0, none⟩) y.m y.cc) rfl
  have x1 := (B1).at_ (i := 1) (v := .int .i64 y.secs) rfl
  have x2 := (B1).at_ (i := 2) (v := .slice (some ⟨y.lb, 0, none⟩) y.bd.length y.lc) rfl
  have x3 := (B1).at_ (i := 3) (v := .slice (some ⟨y.ab, 0, none⟩) y.bd.length y.bd.length) rfl
  rw [← hw2] at x0 x1 x2 x3
  have hd0 : decide ((d : Int) < 0) = false := decide_eq_false (by omega)
  have hd1 : decide (d < y.bd.length) = true := decide_eq_true hd
  have hd1b : decide (y.bd.length ≤ d) = false := decide_eq_false (by omega)
  have hs0 : decide ((slot : Int) < 0) = false := decide_eq_false (by omega)
  have hs1 : decide (4 ≤ slot) = false := decide_eq_false (by omega)
  have hs1b : decide ((4 : Int) ≤ (slot : Int)) = false := decide_eq_false (by omega)
  clear h ok B1 B2 D2 hw2
  go_enter Tryz.func19, Tryz.ntmps19
  go_wp2_with fail
  rw [HW2.out]
  refine HVR.out.mono ?_
  rintro e w3 ⟨rfl, hb3⟩
  have HB3 := Lib.hid (And.intro (HB.out.1.below hb3 HB.out.1.lt) (And.intro (HB.out.2.1.below hb3 HB.out.2.1.lt) (keep_below hb3 HB.out.2.2)))
  clear x0 x1 x2 x3 hb3
  obtain ⟨hk, hhk⟩ : ∃ hk, hereD aw ds d = hk := ⟨_, rfl⟩
  have hhe := vHere_any (HH.out.1.below HB3.out.2.2) few (d : Int)
  rw [show (decide ((0 : Int) ≤ d) && (decide ((d : Int) < y.bd.length) && hereD aw ds (d : Int).toNat)) = hk by rw [decide_eq_true (show (0 : Int) ≤ d by omega), decide_eq_true (show (d : Int) < y.bd.length by omega), Int.toNat_natCast, hhk]; rfl] at hhe
  have HHE := Lib.hid hhe
  have HK := Lib.hid hhk
  have x0 := (HB3.out.1).at_ (i := 0) (v := .slice (some ⟨y.gb, 0, none⟩) y.m y.cc) rfl
  have x1 := (HB3.out.1).at_ (i := 1) (v := .int .i64 y.secs) rfl
  have x2 := (HB3.out.1).at_ (i := 2) (v := .slice (some ⟨y.lb, 0, none⟩) y.bd.length y.lc) rfl
  have x3 := (HB3.out.1).at_ (i := 3) (v := .slice (some ⟨y.ab, 0, none⟩) y.bd.length y.bd.length) rfl
  clear hhe hhk
  go_wp2_with fail
  refine HHE.out.mono ?_
  rintro e w4 ⟨rfl, hb4⟩
  have HB4 := Lib.hid (And.intro (HB3.out.1.below hb4 HB3.out.1.lt) (And.intro (HB3.out.2.1.below hb4 HB3.out.2.1.lt) (keep_below hb4 HB3.out.2.2)))
  clear x0 x1 x2 x3 hb4
  cases hk with
  | false =>
    have hbw := HB4.out.2.2
    have HE : Hid (uoD y.gs y.secs aw ds d slot = (ubZ, 6)) := Lib.hid (by unfold uoD; rw [HK.out]; rfl)
    have z0 := (HB4.out.2.1).at_ (i := 0) (v := .int .i64 0) rfl
    have z1 := (HB4.out.2.1).at_ (i := 1) (v := .int .i64 0) rfl
    have z2 := (HB4.out.2.1).at_ (i := 2) (v := .int .i64 0) rfl
    have z3 := (HB4.out.2.1).at_ (i := 3) (v := .int .i64 0) rfl
    have z4 := (HB4.out.2.1).at_ (i := 4) (v := .int .i64 0) rfl
    have z5 := (HB4.out.2.1).at_ (i := 5) (v := .int .i64 0) rfl
    have z6 := (HB4.out.2.1).at_ (i := 6) (v := .bool false) rfl
    have z7 := (HB4.out.2.1).at_ (i := 7) (v := .int .i64 0) rfl
    have z8 := (HB4.out.2.1).at_ (i := 8) (v := .int .i64 0) rfl
    have z9 := (HB4.out.2.1).at_ (i := 9) (v := .int .i64 0) rfl
    have z10 := (HB4.out.2.1).at_ (i := 10) (v := .int .u64 0) rfl
    have z11 := (HB4.out.2.1).at_ (i := 11) (v := .int .u64 0) rfl
    have z12 := (HB4.out.2.1).at_ (i := 12) (v := .int .u64 0) rfl
    have z13 := (HB4.out.2.1).at_ (i := 13) (v := .int .u64 0) rfl
    have fr0 := (HB4.out.2.1).fr 0
    have fr1 := (HB4.out.2.1).fr 1
    have fr2 := (HB4.out.2.1).fr 2
    have fr3 := (HB4.out.2.1).fr 3
    have fr4 := (HB4.out.2.1).fr 4
    have fr5 := (HB4.out.2.1).fr 5
    have fr6 := (HB4.out.2.1).fr 6
    have fr7 := (HB4.out.2.1).fr 7
    have fr8 := (HB4.out.2.1).fr 8
    have fr9 := (HB4.out.2.1).fr 9
    have fr10 := (HB4.out.2.1).fr 10
    have fr11 := (HB4.out.2.1).fr 11
    have fr12 := (HB4.out.2.1).fr 12
    have fr13 := (HB4.out.2.1).fr 13
    go_wp2_with fail
    refine bodyPost_ret (v := .tuple #[.agg #[.int .i64 0, .int .i64 0, .int .i64 0, .int .i64 0, .int .i64 0, .int .i64 0, .bool false, .int .i64 0, .int .i64 0, .int .i64 0, .int .u64 0, .int .u64 0, .int .u64 0, .int .u64 0], .int .i64 6]) (by simp [results, Tryz.f19, go_sem, z0, z1, z2, z3, z4, z5, z6, z7, z8, z9, z10, z11, z12, z13]) rfl ⟨by rw [HE.out]; rfl, ?_⟩
    repeat (first | (with_reducible exact hbw) | (with_reducible refine keep_alloc ?_ _) | (with_reducible refine below_set ?_ _ _ _ (Nat.le_succ _)))
  | true =>
    obtain ⟨b, hb⟩ : ∃ b, y.bd[d]? = some b := ⟨_, List.getElem?_eq_getElem hd⟩
    obtain ⟨dd, hdd⟩ : ∃ dd, ds[d]? = some dd := ⟨_, List.getElem?_eq_getElem (by have := HH.out.1.n2; omega)⟩
    have hdl : dd.med.length = y.secs := (HH.out.2 dd (List.mem_of_getElem? hdd)).2.1
    have hxl : ∀ i, look ds (ubCol d (slot * 4) i) = dd.rdS ((slot * 4 + i : Nat) : Int) := fun i => by
      unfold look ubCol
      dsimp only
      rw [Int.toNat_natCast, hdd]
    have hrow := HH.out.1.row d b hb
    have HX := Lib.hid (And.intro hb (And.intro hdd (And.intro hdl (And.intro hxl hrow))))
    have x0 := (HB4.out.1).at_ (i := 0) (v := .slice (some ⟨y.gb, 0, none⟩) y.m y.cc) rfl
    have x1 := (HB4.out.1).at_ (i := 1) (v := .int .i64 y.secs) rfl
    have x2 := (HB4.out.1).at_ (i := 2) (v := .slice (some ⟨y.lb, 0, none⟩) y.bd.length y.lc) rfl
    have x3 := (HB4.out.1).at_ (i := 3) (v := .slice (some ⟨y.ab, 0, none⟩) y.bd.length y.bd.length) rfl
    clear hb hdd hdl hxl hrow hd0 hd1b hs0 hs1 hs1b
    go_wp2_with fail
    go_loopw [8, 9, 10, 11, 42] (fun sv _ _ _ t wr => ∃ i : Nat, i ≤ 4 ∧ t = .int .i64 i ∧ sv = str (slotL ds d (slot * 4) i) ∧ Below w4.heap.size w4 wr) (fun _ _ _ _ t _ => 4 - (RowKit.intOf t).toNat)
    case atStart => exact ⟨0, Nat.zero_le _, rfl, rfl, Below.refl _ _⟩
    case round =>
      obtain ⟨i, hi, rfl, rfl, hbi⟩ := hrel
      have hle := slotL_le HH.out.2 d (slot * 4) i
      have hst := slotL_step ds d (slot * 4) i
      obtain ⟨P, hP⟩ : ∃ P, slotL ds d (slot * 4) i = P := ⟨_, rfl⟩
      rw [hP] at hle hst ⊢
      have HBI := Lib.hid hbi
      have hxi := HB4.out.1.below hbi HB4.out.1.lt
      clear x0 x1 x2 x3
      by_cases hlt : i < 4
      · have hd4 : decide (i < 4) = true := decide_eq_true hlt
        have hrow := keepU HX.out.2.2.2.2 (keep_below hbi HB4.out.2.2)
        have hll := look_le HH.out.2 (ubCol d (slot * 4) i)
        rw [HX.out.2.2.2.1 i] at hst hll
        obtain ⟨rs, hrs⟩ : ∃ rs, dd.rdS ((slot * 4 + i : Nat) : Int) = rs := ⟨_, rfl⟩
        have hRD := read_any ((HH.out.1.below (keep_below hbi HB4.out.2.2)).dev d b dd HX.out.1 HX.out.2.1) ((slot * 4 + i : Nat) : Int) (by rw [HX.out.2.2.1]; omega)
        rw [hrs] at hRD hst hll
        have hcast : ((slot * 4 + i : Nat) : Int) = (slot : Int) * 4 + (i : Int) := by omega
        rw [hcast] at hRD
        obtain ⟨me, hme⟩ : ∃ me, dd.mayE ((slot : Int) * 4 + (i : Int)) = me := ⟨_, rfl⟩
        rw [hme] at hRD
        have HRD := Lib.hid hRD
        have hcc := cat_ok P rs (by omega) (by omega)
        have HST := Lib.hid hst
        have x0 := (hxi).at_ (i := 0) (v := .slice (some ⟨y.gb, 0, none⟩) y.m y.cc) rfl
        have x1 := (hxi).at_ (i := 1) (v := .int .i64 y.secs) rfl
        have x2 := (hxi).at_ (i := 2) (v := .slice (some ⟨y.lb, 0, none⟩) y.bd.length y.lc) rfl
        have x3 := (hxi).at_ (i := 3) (v := .slice (some ⟨y.ab, 0, none⟩) y.bd.length y.bd.length) rfl
        clear hst hll hRD hrs hcast hme hP hbi hxi
        go_wp2_with fail
        with_reducible refine HRD.out.mono ?_
        rintro e w6 ⟨rfl, rfl⟩
        go_wp2_with fail
        go_roundw
        case rel => exact ⟨i + 1, hlt, by go_num, by rw [HST.out, str_cat18], HBI.out⟩
        case measure => simp [RowKit.intOf]; omega
      · obtain rfl : i = 4 := by omega
        have hd4 : decide ((4 : Nat) < 4) = false := decide_eq_false (by omega)
        have hV := HH.out.1.below (keep_below hbi HB4.out.2.2)
        have hUR := uread_any (some ⟨y.gb, 0, none⟩) y.m y.cc y.gs y.secs P wr hV.geo (by omega)
        have HPP : Hid (uoD y.gs y.secs aw ds d slot = urD y.gs y.secs P) := Lib.hid (by unfold uoD; rw [HK.out, hP]; rfl)
        obtain ⟨⟨⟨t0, n0, p0⟩, er⟩, hR⟩ : ∃ x, urD y.gs y.secs P = x := ⟨_, rfl⟩
        rw [hR] at hUR HPP
        dsimp only [UbD.cells] at hUR
        have HUR := Lib.hid hUR
        have hb4 := keep_below hbi HB4.out.2.2
        have HZ := Lib.hid (HB4.out.2.1.below hbi HB4.out.2.1.lt)
        have HBW := Lib.hid hb4
        have x0 := (hxi).at_ (i := 0) (v := .slice (some ⟨y.gb, 0, none⟩) y.m y.cc) rfl
        have x1 := (hxi).at_ (i := 1) (v := .int .i64 y.secs) rfl
        have x2 := (hxi).at_ (i := 2) (v := .slice (some ⟨y.lb, 0, none⟩) y.bd.length y.lc) rfl
        have x3 := (hxi).at_ (i := 3) (v := .slice (some ⟨y.ab, 0, none⟩) y.bd.length y.bd.length) rfl
        clear hst hle hV hUR hR hP hbi hxi hb4 hlt hi
        go_wp2_with fail
        refine HUR.out.mono ?_
        rintro e w6 ⟨rfl, hb6⟩
        have hbw := keep_below hb6 HBW.out
        have HZ := Lib.hid (HZ.out.below hb6 HZ.out.lt)
        clear x0 x1 x2 x3 hb6
        have z0 := (HZ.out).at_ (i := 0) (v := .int .i64 0) rfl
        have z1 := (HZ.out).at_ (i := 1) (v := .int .i64 0) rfl
        have z2 := (HZ.out).at_ (i := 2) (v := .int .i64 0) rfl
        have z3 := (HZ.out).at_ (i := 3) (v := .int .i64 0) rfl
        have z4 := (HZ.out).at_ (i := 4) (v := .int .i64 0) rfl
        have z5 := (HZ.out).at_ (i := 5) (v := .int .i64 0) rfl
        have z6 := (HZ.out).at_ (i := 6) (v := .bool false) rfl
        have z7 := (HZ.out).at_ (i := 7) (v := .int .i64 0) rfl
        have z8 := (HZ.out).at_ (i := 8) (v := .int .i64 0) rfl
        have z9 := (HZ.out).at_ (i := 9) (v := .int .i64 0) rfl
        have z10 := (HZ.out).at_ (i := 10) (v := .int .u64 0) rfl
        have z11 := (HZ.out).at_ (i := 11) (v := .int .u64 0) rfl
        have z12 := (HZ.out).at_ (i := 12) (v := .int .u64 0) rfl
        have z13 := (HZ.out).at_ (i := 13) (v := .int .u64 0) rfl
        have fr0 := (HZ.out).fr 0
        have fr1 := (HZ.out).fr 1
        have fr2 := (HZ.out).fr 2
        have fr3 := (HZ.out).fr 3
        have fr4 := (HZ.out).fr 4
        have fr5 := (HZ.out).fr 5
        have fr6 := (HZ.out).fr 6
        have fr7 := (HZ.out).fr 7
        have fr8 := (HZ.out).fr 8
        have fr9 := (HZ.out).fr 9
        have fr10 := (HZ.out).fr 10
        have fr11 := (HZ.out).fr 11
        have fr12 := (HZ.out).fr 12
        have fr13 := (HZ.out).fr 13
        go_wp2_with fail
        refine bodyPost_ret (v := .tuple #[.agg #[.int .i64 t0, .int .i64 n0, .int .i64 p0.ag, .int .i64 p0.aa, .int .i64 p0.bg, .int .i64 p0.ba, .bool p0.two, .int .i64 p0.size, .int .i64 p0.level, .int .i64 p0.birth, .int .u64 p0.s0, .int .u64 p0.s1, .int .u64 p0.s2, .int .u64 p0.s3], .int .i64 er]) (by simp [results, Tryz.f19, go_sem, z0, z1, z2, z3, z4, z5, z6, z7, z8, z9, z10, z11, z12, z13]) rfl ⟨by rw [HPP.out], ?_⟩
        repeat (first | (with_reducible exact hbw) | (with_reducible refine keep_alloc ?_ _) | (with_reducible refine below_set ?_ _ _ _ (Nat.le_succ _)))
end Go.Proofs.YtlpbbjjibnbooaaGreatDoor

namespace Go.Proofs.YtlpbbjjibnbooaaGreatDoor
set_option linter.unusedVariables false
set_option linter.unusedSimpArgs false
open Go.RowKit

/-- The better of two. -/
def bestStep (b : UbD) (x : UbD × Int) : UbD := if x.2 = 0 ∧ b.t < x.1.t then x.1 else b
def bestD (gs : List (Int × Int)) (secs : Int) (aw : List Bool) (ds : List DevD) (d : Nat) (b : UbD) (k : Nat) : UbD := (List.range k).foldl (fun b i => bestStep b (uoD gs secs aw ds d i)) b
def bestA (gs : List (Int × Int)) (secs : Int) (aw : List Bool) (ds : List DevD) (k : Nat) : UbD := (List.range k).foldl (fun b d => bestD gs secs aw ds d b 4) ubZ
def bestR (gs : List (Int × Int)) (secs : Int) (aw : List Bool) (ds : List DevD) (n : Nat) : UbD × Int := if (bestA gs secs aw ds n).t = 0 then (ubZ, 7) else (bestA gs secs aw ds n, 0)
theorem bestD_step (gs : List (Int × Int)) (secs : Int) (aw : List Bool) (ds : List DevD) (d : Nat) (b : UbD) (k : Nat) : bestD gs secs aw ds d b (k + 1) = bestStep (bestD gs secs aw ds d b k) (uoD gs secs aw ds d k) := by
  unfold bestD
  rw [List.range_succ, List.foldl_append]
  rfl
theorem bestA_step (gs : List (Int × Int)) (secs : Int) (aw : List Bool) (ds : List DevD) (k : Nat) : bestA gs secs aw ds (k + 1) = bestD gs secs aw ds k (bestA gs secs aw ds k) 4 := by
  unfold bestA
  rw [List.range_succ, List.foldl_append]
  rfl
set_option maxRecDepth 20000 in
set_option maxHeartbeats 4000000 in
theorem ubest_any {w : World} {S : Nat → Nat → Prop} {U : Nat → Prop} {y : VX} {aw : List Bool} {ds : List DevD} (h : VdIn w S U y aw ds) (few : y.bd.length ≤ 1000) {N : Nat} (ok : DsOk N y.secs ds) :
    Calls Tryz.prog 14 #[y.val] w fun e w' => e = .returned (.tuple #[.agg (bestR y.gs y.secs aw ds y.bd.length).1.cells, .int .i64 (bestR y.gs y.secs aw ds y.bd.length).2]) ∧ Below w.heap.size w w' := by
  have hbz := build_ubZ
  obtain ⟨w2, hw2⟩ : ∃ z, (w.alloc (.cells y.cells 50)).alloc (.cells #[.int .i64 0, .int .i64 0, .int .i64 0, .int .i64 0, .int .i64 0, .int .i64 0, .bool false, .int .i64 0, .int .i64 0, .int .i64 0, .int .u64 0, .int .u64 0, .int .u64 0, .int .u64 0] 35) = z := ⟨_, rfl⟩
  have B1 : Blk w2 w.heap.size 50 y.cells := by rw [← hw2]; exact (Blk.new _ _ _).alloc _
  have B2 : Blk w2 (w.heap.size + 1) 35 #[.int .i64 0, .int .i64 0, .int .i64 0, .int .i64 0, .int .i64 0, .int .i64 0, .bool false, .int .i64 0, .int .i64 0, .int .i64 0, .int .u64 0, .int .u64 0, .int .u64 0, .int .u64 0] := by rw [← hw2]; exact Blk.new2 _ _ _ _
  have D2 : Below w.heap.size w w2 := by rw [← hw2]; exact keep_alloc (keep_alloc (Below.refl _ _) _) _
  have HVR := Lib.hid (vright_any (h.below D2) few)
  have HH := Lib.hid (And.intro h ok)
  have HB := Lib.hid (And.intro B1 (And.intro B2 D2))
  have HW2 := Lib.hid hw2
  have x0 := (B1).at_ (i := 0) (v := .slice (some ⟨y.gb, 0, none⟩) y.m y.cc) rfl
  have x1 := (B1).at_ (i := 1) (v := .int .i64 y.secs) rfl
  have x2 := (B1).at_ (i := 2) (v := .slice (some ⟨y.lb, 0, none⟩) y.bd.length y.lc) rfl
  have x3 := (B1).at_ (i := 3) (v := .slice (some ⟨y.ab, 0, none⟩) y.bd.length y.bd.length) rfl
  rw [← hw2] at x0 x1 x2 x3
  clear h ok B1 B2 D2 hw2
  go_enter Tryz.func14, Tryz.ntmps14
  go_wp2_with fail
  rw [HW2.out]
  refine HVR.out.mono ?_
  rintro e w3 ⟨rfl, hb3⟩
  obtain ⟨w4, hw4⟩ : ∃ z, w3.alloc (.cells #[.int .i64 0, .int .i64 0, .int .i64 0, .int .i64 0, .int .i64 0, .int .i64 0, .bool false, .int .i64 0, .int .i64 0, .int .i64 0, .int .u64 0, .int .u64 0, .int .u64 0, .int .u64 0] 35) = z := ⟨_, rfl⟩
  have hb4 : Below w2.heap.size w2 w4 := by rw [← hw4]; exact keep_alloc hb3 _
  have hls : w.heap.size + 1 < w3.heap.size := Nat.lt_of_lt_of_le HB.out.2.1.lt hb3.size
  obtain ⟨bb, hbb⟩ : ∃ bb, w3.heap.size = bb := ⟨_, rfl⟩
  have hN4 : Blk w4 bb 35 (bestA y.gs y.secs aw ds 0).cells := by rw [← hw4, ← hbb]; exact Blk.new _ _ _
  rw [hbb] at hls
  have H4 := Lib.hid (And.intro (HB.out.1.below hb4 HB.out.1.lt) (And.intro (HB.out.2.1.below hb4 HB.out.2.1.lt) (And.intro hN4 (keep_below hb4 HB.out.2.2))))
  have HW4 := Lib.hid hw4
  have HBB := Lib.hid hbb
  have x2' := H4.out.1.at_ (i := 2) (v := .slice (some ⟨y.lb, 0, none⟩) y.bd.length y.lc) rfl
  rw [← hw4] at x2'
  clear x0 x1 x2 x3 hb3 hb4 hw4 hN4 hbb
  go_wp2_with fail
  rw [HW4.out, HBB.out]
  go_loopw [5, 6, 7, 8, 17, 23] (fun _ _ _ _ t _ wr => ∃ k : Nat, k ≤ y.bd.length ∧ t = .int .i64 k ∧ Blk wr w.heap.size 50 y.cells ∧ Blk wr (w.heap.size + 1) 35 #[.int .i64 0, .int .i64 0, .int .i64 0, .int .i64 0, .int .i64 0, .int .i64 0, .bool false, .int .i64 0, .int .i64 0, .int .i64 0, .int .u64 0, .int .u64 0, .int .u64 0, .int .u64 0] ∧ Blk wr bb 35 (bestA y.gs y.secs aw ds k).cells ∧ Below w.heap.size w wr) (fun _ _ _ _ t _ _ => y.bd.length - (RowKit.intOf t).toNat)
  case atStart => exact ⟨0, Nat.zero_le _, rfl, H4.out.1, H4.out.2.1, H4.out.2.2.1, H4.out.2.2.2⟩
  case round =>
    obtain ⟨k, hk, rfl, hx, hz, hbk, hb⟩ := hrel
    clear x2'
    have HR := Lib.hid (And.intro hx (And.intro hz (And.intro hbk hb)))
    by_cases hlt : k < y.bd.length
    · have hd1 : decide (k < y.bd.length) = true := decide_eq_true hlt
      have hsp := bestA_step y.gs y.secs aw ds k
      obtain ⟨BK, hBK⟩ : ∃ BK, bestA y.gs y.secs aw ds k = BK := ⟨_, rfl⟩
      rw [hBK] at hsp HR
      have HSP := Lib.hid hsp
      clear hsp hBK hx hz hbk hb
      go_wp2_with fail
      go_loopw [6, 7, 8, 20, 23] (fun _ _ _ t _ wr => ∃ i : Nat, i ≤ 4 ∧ t = .int .i64 i ∧ Blk wr w.heap.size 50 y.cells ∧ Blk wr (w.heap.size + 1) 35 #[.int .i64 0, .int .i64 0, .int .i64 0, .int .i64 0, .int .i64 0, .int .i64 0, .bool false, .int .i64 0, .int .i64 0, .int .i64 0, .int .u64 0, .int .u64 0, .int .u64 0, .int .u64 0] ∧ Blk wr bb 35 (bestD y.gs y.secs aw ds k BK i).cells ∧ Below w.heap.size w wr) (fun _ _ _ t _ _ => 4 - (RowKit.intOf t).toNat)
      case atStart => exact ⟨0, Nat.zero_le _, rfl, HR.out.1, HR.out.2.1, HR.out.2.2.1, HR.out.2.2.2⟩
      case round =>
        obtain ⟨i, hi, rfl, hx, hz, hbk, hb⟩ := hrel
        by_cases hl4 : i < 4
        · have hd4 : decide (i < 4) = true := decide_eq_true hl4
          have hon := uon_any (HH.out.1.below hb) few HH.out.2 k i hlt hl4
          have hsp := bestD_step y.gs y.secs aw ds k BK i
          obtain ⟨⟨bt, bn, bp⟩, hBI⟩ : ∃ B, bestD y.gs y.secs aw ds k BK i = B := ⟨_, rfl⟩
          obtain ⟨⟨⟨t0, n0, p0⟩, er⟩, hU⟩ : ∃ x, uoD y.gs y.secs aw ds k i = x := ⟨_, rfl⟩
          rw [hBI] at hsp hbk
          rw [hU] at hsp hon
          dsimp only [UbD.cells] at hbk hon
          have HON := Lib.hid hon
          have HI := Lib.hid (And.intro hx (And.intro hz (And.intro hbk hb)))
          have HSI := Lib.hid hsp
          have x0 := (hx).at_ (i := 0) (v := .slice (some ⟨y.gb, 0, none⟩) y.m y.cc) rfl
          have x1 := (hx).at_ (i := 1) (v := .int .i64 y.secs) rfl
          have x2 := (hx).at_ (i := 2) (v := .slice (some ⟨y.lb, 0, none⟩) y.bd.length y.lc) rfl
          have x3 := (hx).at_ (i := 3) (v := .slice (some ⟨y.ab, 0, none⟩) y.bd.length y.bd.length) rfl
          clear hon hsp hBI hU hx hz hbk hb
          go_wp2_with fail
          refine HON.out.mono ?_
          rintro e w5 ⟨rfl, hb5⟩
          obtain ⟨w6, hw6⟩ : ∃ z, w5.alloc (.cells #[.int .i64 t0, .int .i64 n0, .int .i64 p0.ag, .int .i64 p0.aa, .int .i64 p0.bg, .int .i64 p0.ba, .bool p0.two, .int .i64 p0.size, .int .i64 p0.level, .int .i64 p0.birth, .int .u64 p0.s0, .int .u64 p0.s1, .int .u64 p0.s2, .int .u64 p0.s3] 35) = z := ⟨_, rfl⟩
          have hb6 : Below wr.heap.size wr w6 := by rw [← hw6]; exact keep_alloc hb5 _
          have hN6 : Blk w6 w5.heap.size 35 #[.int .i64 t0, .int .i64 n0, .int .i64 p0.ag, .int .i64 p0.aa, .int .i64 p0.bg, .int .i64 p0.ba, .bool p0.two, .int .i64 p0.size, .int .i64 p0.level, .int .i64 p0.birth, .int .u64 p0.s0, .int .u64 p0.s1, .int .u64 p0.s2, .int .u64 p0.s3] := by rw [← hw6]; exact Blk.new _ _ _
          have hB6 := HI.out.2.2.1.below hb6 HI.out.2.2.1.lt
          have H6 := Lib.hid (And.intro (HI.out.1.below hb6 HI.out.1.lt) (And.intro (HI.out.2.1.below hb6 HI.out.2.1.lt) (And.intro hB6 (keep_below hb6 HI.out.2.2.2))))
          have b0 := (hB6).at_ (i := 0) (v := .int .i64 bt) rfl
          have b1 := (hB6).at_ (i := 1) (v := .int .i64 bn) rfl
          have b2 := (hB6).at_ (i := 2) (v := .int .i64 bp.ag) rfl
          have b3 := (hB6).at_ (i := 3) (v := .int .i64 bp.aa) rfl
          have b4 := (hB6).at_ (i := 4) (v := .int .i64 bp.bg) rfl
          have b5 := (hB6).at_ (i := 5) (v := .int .i64 bp.ba) rfl
          have b6 := (hB6).at_ (i := 6) (v := .bool bp.two) rfl
          have b7 := (hB6).at_ (i := 7) (v := .int .i64 bp.size) rfl
          have b8 := (hB6).at_ (i := 8) (v := .int .i64 bp.level) rfl
          have b9 := (hB6).at_ (i := 9) (v := .int .i64 bp.birth) rfl
          have b10 := (hB6).at_ (i := 10) (v := .int .u64 bp.s0) rfl
          have b11 := (hB6).at_ (i := 11) (v := .int .u64 bp.s1) rfl
          have b12 := (hB6).at_ (i := 12) (v := .int .u64 bp.s2) rfl
          have b13 := (hB6).at_ (i := 13) (v := .int .u64 bp.s3) rfl
          have bf0 := (hB6).fr 0
          have bf1 := (hB6).fr 1
          have bf2 := (hB6).fr 2
          have bf3 := (hB6).fr 3
          have bf4 := (hB6).fr 4
          have bf5 := (hB6).fr 5
          have bf6 := (hB6).fr 6
          have bf7 := (hB6).fr 7
          have bf8 := (hB6).fr 8
          have bf9 := (hB6).fr 9
          have bf10 := (hB6).fr 10
          have bf11 := (hB6).fr 11
          have bf12 := (hB6).fr 12
          have bf13 := (hB6).fr 13
          have u0 := (hN6).at_ (i := 0) (v := .int .i64 t0) rfl
          have u1 := (hN6).at_ (i := 1) (v := .int .i64 n0) rfl
          have u2 := (hN6).at_ (i := 2) (v := .int .i64 p0.ag) rfl
          have u3 := (hN6).at_ (i := 3) (v := .int .i64 p0.aa) rfl
          have u4 := (hN6).at_ (i := 4) (v := .int .i64 p0.bg) rfl
          have u5 := (hN6).at_ (i := 5) (v := .int .i64 p0.ba) rfl
          have u6 := (hN6).at_ (i := 6) (v := .bool p0.two) rfl
          have u7 := (hN6).at_ (i := 7) (v := .int .i64 p0.size) rfl
          have u8 := (hN6).at_ (i := 8) (v := .int .i64 p0.level) rfl
          have u9 := (hN6).at_ (i := 9) (v := .int .i64 p0.birth) rfl
          have u10 := (hN6).at_ (i := 10) (v := .int .u64 p0.s0) rfl
          have u11 := (hN6).at_ (i := 11) (v := .int .u64 p0.s1) rfl
          have u12 := (hN6).at_ (i := 12) (v := .int .u64 p0.s2) rfl
          have u13 := (hN6).at_ (i := 13) (v := .int .u64 p0.s3) rfl
          rw [← hw6] at b0 b1 b2 b3 b4 b5 b6 b7 b8 b9 b10 b11 b12 b13 bf0 bf1 bf2 bf3 bf4 bf5 bf6 bf7 bf8 bf9 bf10 bf11 bf12 bf13 u0 u1 u2 u3 u4 u5 u6 u7 u8 u9 u10 u11 u12 u13
          have HW6 := Lib.hid hw6
          clear x0 x1 x2 x3 hb5 hb6 hN6 hB6 hw6
          by_cases hgo : er = 0 ∧ bt < t0
          · obtain ⟨rfl, hgt⟩ := hgo
            have hdg : decide (bt < t0) = true := decide_eq_true hgt
            have HNX : Hid (bestD y.gs y.secs aw ds k BK (i + 1) = ⟨t0, n0, p0⟩) := Lib.hid (by rw [HSI.out]; exact if_pos ⟨rfl, hgt⟩)
            obtain ⟨X2, hX2⟩ : ∃ z, ((((((((((((((w6.setCell ⟨bb, 0, none⟩ (.int .i64 t0)).setCell ⟨bb, 1, none⟩ (.int .i64 n0)).setCell ⟨bb, 2, none⟩ (.int .i64 p0.ag)).setCell ⟨bb, 3, none⟩ (.int .i64 p0.aa)).setCell ⟨bb, 4, none⟩ (.int .i64 p0.bg)).setCell ⟨bb, 5, none⟩ (.int .i64 p0.ba)).setCell ⟨bb, 6, none⟩ (.bool p0.two)).setCell ⟨bb, 7, none⟩ (.int .i64 p0.size)).setCell ⟨bb, 8, none⟩ (.int .i64 p0.level)).setCell ⟨bb, 9, none⟩ (.int .i64 p0.birth)).setCell ⟨bb, 10, none⟩ (.int .u64 p0.s0)).setCell ⟨bb, 11, none⟩ (.int .u64 p0.s1)).setCell ⟨bb, 12, none⟩ (.int .u64 p0.s2)).setCell ⟨bb, 13, none⟩ (.int .u64 p0.s3)) = z := ⟨_, rfl⟩
            have hX2' : (w6).setCells (bb) 0 [.int .i64 t0, .int .i64 n0, .int .i64 p0.ag, .int .i64 p0.aa, .int .i64 p0.bg, .int .i64 p0.ba, .bool p0.two, .int .i64 p0.size, .int .i64 p0.level, .int .i64 p0.birth, .int .u64 p0.s0, .int .u64 p0.s1, .int .u64 p0.s2, .int .u64 p0.s3] = X2 := hX2
            have hne1 : w.heap.size ≠ bb := by omega
            have hne2 : w.heap.size + 1 ≠ bb := by omega
            have HX2 := Lib.hid (show Blk X2 w.heap.size 50 y.cells ∧ Blk X2 (w.heap.size + 1) 35 #[.int .i64 0, .int .i64 0, .int .i64 0, .int .i64 0, .int .i64 0, .int .i64 0, .bool false, .int .i64 0, .int .i64 0, .int .i64 0, .int .u64 0, .int .u64 0, .int .u64 0, .int .u64 0] ∧ Blk X2 bb 35 #[.int .i64 t0, .int .i64 n0, .int .i64 p0.ag, .int .i64 p0.aa, .int .i64 p0.bg, .int .i64 p0.ba, .bool p0.two, .int .i64 p0.size, .int .i64 p0.level, .int .i64 p0.birth, .int .u64 p0.s0, .int .u64 p0.s1, .int .u64 p0.s2, .int .u64 p0.s3] ∧ Below w.heap.size w X2 by
              rw [← hX2']
              exact ⟨H6.out.1.fars hne1 _ _, H6.out.2.1.fars hne2 _ _, H6.out.2.2.1.putAll #[.int .i64 t0, .int .i64 n0, .int .i64 p0.ag, .int .i64 p0.aa, .int .i64 p0.bg, .int .i64 p0.ba, .bool p0.two, .int .i64 p0.size, .int .i64 p0.level, .int .i64 p0.birth, .int .u64 p0.s0, .int .u64 p0.s1, .int .u64 p0.s2, .int .u64 p0.s3] rfl, below_sets _ _ H6.out.2.2.2 (by omega)⟩)
            have HW7 := Lib.hid hX2
            clear hgt hX2 hX2' hne1 hne2
            go_wp2_with fail
            rw [HW6.out, HW7.out]
            go_roundw
            case rel => exact ⟨i + 1, hl4, by go_num, HX2.out.1, HX2.out.2.1, by rw [HNX.out]; exact HX2.out.2.2.1, HX2.out.2.2.2⟩
            case measure => simp [RowKit.intOf]; omega
          · have HNX : Hid (bestD y.gs y.secs aw ds k BK (i + 1) = ⟨bt, bn, bp⟩) := Lib.hid (by rw [HSI.out]; exact if_neg hgo)
            by_cases he : er = 0
            · subst he
              have hdg : decide (bt < t0) = false := decide_eq_false (fun h => hgo ⟨rfl, h⟩)
              clear hgo
              go_wp2_with fail
              rw [HW6.out]
              go_roundw
              case rel => exact ⟨i + 1, hl4, by go_num, H6.out.1, H6.out.2.1, by rw [HNX.out]; exact H6.out.2.2.1, H6.out.2.2.2⟩
              case measure => simp [RowKit.intOf]; omega
            · have hqe : (er == 0) = false := beq_eq_false_iff_ne.2 he
              clear hgo he
              go_wp2_with fail
              rw [HW6.out]
              go_roundw
              case rel => exact ⟨i + 1, hl4, by go_num, H6.out.1, H6.out.2.1, by rw [HNX.out]; exact H6.out.2.2.1, H6.out.2.2.2⟩
              case measure => simp [RowKit.intOf]; omega
        · obtain rfl : i = 4 := by omega
          rw [← HSP.out] at hbk
          have HF := Lib.hid (And.intro hx (And.intro hz (And.intro hbk hb)))
          clear hx hz hbk hb hl4 hi
          go_wp2_with fail
          go_roundw
          case rel => exact ⟨k + 1, hlt, by go_num, HF.out.1, HF.out.2.1, HF.out.2.2.1, HF.out.2.2.2⟩
          case measure => simp [RowKit.intOf]; omega
    · obtain rfl : k = y.bd.length := by omega
      have hd1 : decide (y.bd.length < y.bd.length) = false := decide_eq_false (by omega)
      obtain ⟨⟨bt, bn, bp⟩, hBK⟩ : ∃ BK, bestA y.gs y.secs aw ds y.bd.length = BK := ⟨_, rfl⟩
      have hR : bestR y.gs y.secs aw ds y.bd.length = if bt = 0 then (ubZ, 7) else (⟨bt, bn, bp⟩, 0) := by unfold bestR; rw [hBK]
      rw [hBK] at hbk
      dsimp only [UbD.cells] at hbk
      have hbw := hb
      have b0 := (hbk).at_ (i := 0) (v := .int .i64 bt) rfl
      have b1 := (hbk).at_ (i := 1) (v := .int .i64 bn) rfl
      have b2 := (hbk).at_ (i := 2) (v := .int .i64 bp.ag) rfl
      have b3 := (hbk).at_ (i := 3) (v := .int .i64 bp.aa) rfl
      have b4 := (hbk).at_ (i := 4) (v := .int .i64 bp.bg) rfl
      have b5 := (hbk).at_ (i := 5) (v := .int .i64 bp.ba) rfl
      have b6 := (hbk).at_ (i := 6) (v := .bool bp.two) rfl
      have b7 := (hbk).at_ (i := 7) (v := .int .i64 bp.size) rfl
      have b8 := (hbk).at_ (i := 8) (v := .int .i64 bp.level) rfl
      have b9 := (hbk).at_ (i := 9) (v := .int .i64 bp.birth) rfl
      have b10 := (hbk).at_ (i := 10) (v := .int .u64 bp.s0) rfl
      have b11 := (hbk).at_ (i := 11) (v := .int .u64 bp.s1) rfl
      have b12 := (hbk).at_ (i := 12) (v := .int .u64 bp.s2) rfl
      have b13 := (hbk).at_ (i := 13) (v := .int .u64 bp.s3) rfl
      have bf0 := (hbk).fr 0
      have bf1 := (hbk).fr 1
      have bf2 := (hbk).fr 2
      have bf3 := (hbk).fr 3
      have bf4 := (hbk).fr 4
      have bf5 := (hbk).fr 5
      have bf6 := (hbk).fr 6
      have bf7 := (hbk).fr 7
      have bf8 := (hbk).fr 8
      have bf9 := (hbk).fr 9
      have bf10 := (hbk).fr 10
      have bf11 := (hbk).fr 11
      have bf12 := (hbk).fr 12
      have bf13 := (hbk).fr 13
      have z0 := (hz).at_ (i := 0) (v := .int .i64 0) rfl
      have z1 := (hz).at_ (i := 1) (v := .int .i64 0) rfl
      have z2 := (hz).at_ (i := 2) (v := .int .i64 0) rfl
      have z3 := (hz).at_ (i := 3) (v := .int .i64 0) rfl
      have z4 := (hz).at_ (i := 4) (v := .int .i64 0) rfl
      have z5 := (hz).at_ (i := 5) (v := .int .i64 0) rfl
      have z6 := (hz).at_ (i := 6) (v := .bool false) rfl
      have z7 := (hz).at_ (i := 7) (v := .int .i64 0) rfl
      have z8 := (hz).at_ (i := 8) (v := .int .i64 0) rfl
      have z9 := (hz).at_ (i := 9) (v := .int .i64 0) rfl
      have z10 := (hz).at_ (i := 10) (v := .int .u64 0) rfl
      have z11 := (hz).at_ (i := 11) (v := .int .u64 0) rfl
      have z12 := (hz).at_ (i := 12) (v := .int .u64 0) rfl
      have z13 := (hz).at_ (i := 13) (v := .int .u64 0) rfl
      have fr0 := (hz).fr 0
      have fr1 := (hz).fr 1
      have fr2 := (hz).fr 2
      have fr3 := (hz).fr 3
      have fr4 := (hz).fr 4
      have fr5 := (hz).fr 5
      have fr6 := (hz).fr 6
      have fr7 := (hz).fr 7
      have fr8 := (hz).fr 8
      have fr9 := (hz).fr 9
      have fr10 := (hz).fr 10
      have fr11 := (hz).fr 11
      have fr12 := (hz).fr 12
      have fr13 := (hz).fr 13
      clear hBK hx hbk hz hb HR hlt hk
      by_cases h0 : bt = 0
      · subst h0
        have HE : Hid (bestR y.gs y.secs aw ds y.bd.length = (ubZ, 7)) := Lib.hid (by rw [hR]; rfl)
        clear hR
        go_wp2_with fail
        refine bodyPost_ret (v := .tuple #[.agg #[.int .i64 0, .int .i64 0, .int .i64 0, .int .i64 0, .int .i64 0, .int .i64 0, .bool false, .int .i64 0, .int .i64 0, .int .i64 0, .int .u64 0, .int .u64 0, .int .u64 0, .int .u64 0], .int .i64 7]) (by simp [results, Tryz.f14, go_sem, z0, z1, z2, z3, z4, z5, z6, z7, z8, z9, z10, z11, z12, z13]) rfl ⟨by rw [HE.out]; rfl, ?_⟩
        repeat (first | (with_reducible exact hbw) | (with_reducible refine keep_alloc ?_ _) | (with_reducible refine below_set ?_ _ _ _ (Nat.le_succ _)))
      · have HE : Hid (bestR y.gs y.secs aw ds y.bd.length = (⟨bt, bn, bp⟩, 0)) := Lib.hid (by rw [hR, if_neg h0])
        have hqe : (bt == 0) = false := beq_eq_false_iff_ne.2 h0
        clear hR h0
        go_wp2_with fail
        refine bodyPost_ret (v := .tuple #[.agg #[.int .i64 bt, .int .i64 bn, .int .i64 bp.ag, .int .i64 bp.aa, .int .i64 bp.bg, .int .i64 bp.ba, .bool bp.two, .int .i64 bp.size, .int .i64 bp.level, .int .i64 bp.birth, .int .u64 bp.s0, .int .u64 bp.s1, .int .u64 bp.s2, .int .u64 bp.s3], .int .i64 0]) (by simp [results, Tryz.f14, go_sem, z0, z1, z2, z3, z4, z5, z6, z7, z8, z9, z10, z11, z12, z13]) rfl ⟨by rw [HE.out], ?_⟩
        repeat (first | (with_reducible exact hbw) | (with_reducible refine keep_alloc ?_ _) | (with_reducible refine below_set ?_ _ _ _ (Nat.le_succ _)))
end Go.Proofs.YtlpbbjjibnbooaaGreatDoor
