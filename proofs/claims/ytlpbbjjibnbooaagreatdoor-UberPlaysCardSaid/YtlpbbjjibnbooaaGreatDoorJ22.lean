/-
  Contracts of package dev: Spoil.
  Contracts of package code: Fits, Bad.
  What is in a device's cache, in order; a crash, sector by sector. No program stands here.
  Flushed, written again, crashed: what was flushed is read. No program stands here.
  Devices spoilt; the example of layer 18.
  The example of layer 18, walked.
  The walk of NodeNodes.
-/
import Derived.Test.YtlpbbjjibnbooaaGreatDoorJ04
import Derived.Laws.BitsAllLaws
import Derived.Test.YtlpbbjjibnbooaaGreatDoorJ09
import Derived.Test.YtlpbbjjibnbooaaGreatDoorJ01
import Derived.Test.YtlpbbjjibnbooaaGreatDoorJ02
import Derived.Test.YtlpbbjjibnbooaaGreatDoorJ20
import Derived.Test.YtlpbbjjibnbooaaGreatDoorJ21
import Derived.Test.YtlpbbjjibnbooaaGreatDoorJ16
namespace Go.Proofs.YtlpbbjjibnbooaaGreatDoor
set_option linter.unusedVariables false
set_option linter.unusedSimpArgs false
open Go.RowKit

theorem wrapsA {j : Nat} (hn : j ≤ 1000000) : wrap64 ((j : Int) + 1 - 1) = j := by rw [IntWalk.wrap64_in _ (by omega)]; omega
theorem wrapsB {j : Nat} (hn : j ≤ 1000000) : IntKind.i64.wrap (j : Int) = j := (IntWalk.i64_left j).trans (IntWalk.wrap64_in _ (by omega))

theorem spot_steps {p : Int} (hp : -9223372036854775808 ≤ p ∧ p ≤ 9223372036854775807) :
    wrap64 (p.tmod 64 + 64) = p.tmod 64 + 64 ∧ (p.tmod 64 + 64).tmod 64 = (DevD.spot p : Int) ∧ DevD.spot p < 64 := by
  have h1 : p.tmod 64 < 64 := Int.tmod_lt_of_pos _ (by omega)
  have h2 : -64 < p.tmod 64 := Int.lt_tmod_of_pos p (by omega)
  have h3 : (p.tmod 64 + 64).tmod 64 < 64 := Int.tmod_lt_of_pos _ (by omega)
  have h4 : 0 ≤ (p.tmod 64 + 64).tmod 64 := Int.tmod_nonneg _ (by omega)
  refine ⟨IntWalk.wrap64_in _ (by omega), ?_, ?_⟩
  · unfold DevD.spot; omega
  · unfold DevD.spot; omega

/-- The bytes of a text in a new block. -/
theorem bytes_new (w : World) (s : List UInt8) : ∃ (c : Nat) (w' : World), (convert 9 43 (str s)).run Tryz.prog w = .ok (.slice (some ⟨w.heap.size, 0, none⟩) s.length c) w' ∧ Below w.heap.size w w' ∧ w'.heap.size = w.heap.size + 1 ∧
    (∀ j u, s[j]? = some u → w'.cell? ⟨w.heap.size, j, none⟩ = some (.int .u8 u.toNat)) ∧ ∀ j, j < s.length → w'.frozen? ⟨w.heap.size, j, none⟩ = false := by
  have h := run_bytes_of_string (P := Tryz.prog) w 9 43 5 ⟨s.toArray⟩ Tryz.underlying9 Tryz.underlying43 Tryz.underlying5
  have hsz : (⟨s.toArray⟩ : ByteArray).size = s.length := by simp [ByteArray.size]
  rw [hsz] at h
  generalize grownCap w s.length 0 5 = c at h
  have hlen : s.length ≤ (bytesRow ⟨s.toArray⟩ c).size := by simp [bytesRow, ByteArray.size]
  refine ⟨c, _, h, (Below.refl _ w).drew.alloc (Nat.le_refl _) _, by show (w.drew.alloc _).heap.size = w.drew.heap.size + 1; simp, fun j u hu => ?_, fun j hj => ?_⟩
  · obtain ⟨hj, rfl⟩ := List.getElem?_eq_some_iff.1 hu
    have := bytesRow_at ⟨s.toArray⟩ c j (by simpa using hj)
    have h2 : w.drew.heap.size = w.heap.size := rfl
    rw [← h2, cell_of_row _ _ _ _ _ _ (heap_alloc_new w.drew _), this]
    simp
  · have h2 : w.drew.heap.size = w.heap.size := rfl
    rw [← h2]
    simp only [World.frozen?, heap_alloc_new]
    simp only [Bool.and_eq_false_imp, decide_eq_true_eq, decide_eq_false_iff_not]
    omega

theorem spoil_no {w : World} {S : Nat → Prop} {bd : Nat} {d : DevD} (h : DevAt w S bd d) (a place : Int) (b : UInt8) (few : d.med.length ≤ 4096) (h0 : d.spoilOk a b = false) :
    Calls Tryz.prog 15 #[.pointer (some ⟨bd, 0, none⟩), .int .i64 a, .int .i64 place, .int .u8 b.toNat] w fun e w' => e = .returned (.bool false) ∧ w = w' := by
  have HM := Lib.hid (dmay_any h a few)
  by_cases h1 : d.mayE a = 0
  · rw [h1] at HM
    have hb : b = 0 := by
      simp only [DevD.spoilOk, h1, decide_true, Bool.true_and] at h0
      simpa using h0
    subst hb
    clear h0 h1 h
    go_enter Tryz.func15, Tryz.ntmps15
    go_wp2_with fail
    refine HM.out.mono ?_
    rintro e w1 ⟨rfl, rfl⟩
    go_wp2_with fail
    go_ret
    exact ⟨rfl, rfl⟩
  · have hne : (d.mayE a != 0) = true := by simpa using h1
    clear h0 h1 h
    generalize d.mayE a = E at *
    go_enter Tryz.func15, Tryz.ntmps15
    go_wp2_with fail
    refine HM.out.mono ?_
    rintro e w1 ⟨rfl, rfl⟩
    go_wp2_with fail
    go_ret
    exact ⟨rfl, rfl⟩
theorem xor_u8 (u b : UInt8) : bits BinOp.xor IntKind.u8 u.toNat b.toNat = ((u ^^^ b).toNat : Int) :=
  (u8_xor_nat u.toNat b.toNat u.toNat_lt b.toNat_lt).trans (by rw [UInt8.toNat_xor])
/-- The last of a row is turned. -/
theorem DevIn.row_set {w : World} {S : Nat → Prop} {bd mb mcap cb : Nat} {d : DevD} {g : Int → Option Value} (h : DevIn w S bd d mb mcap cb g) {k cv cap : Nat} (hg : g (k : Int) = some (.slice (some ⟨cv, 0, none⟩) (d.cac k).length cap))
    (hp : 0 < (d.cac k).length) (s : List UInt8) : DevIn (w.setCell ⟨cv, (d.cac k).length - 1, none⟩ (str s)) S bd { d with cac := fun j => if j = k then (d.cac j).set ((d.cac j).length - 1) s else d.cac j } mb mcap cb g := by
  have hne : ∀ i, i ≠ cv → (w.setCell ⟨cv, (d.cac k).length - 1, none⟩ (str s)).heap[i]? = w.heap[i]? := fun i hi => Below.heap_setCell w _ _ i hi
  obtain ⟨n1, n2, n3⟩ := h.row_nes hg cv rfl
  have hrow : ∀ (j : Int) u, j ≠ k → g j = some u → ∀ b, u.ownBlock = some b → b ≠ cv := by
    rintro j u hj hu b hb rfl
    exact hj (h.apart2 j k u _ hu hg hb)
  refine ⟨(hne bd (Ne.symm n1)).trans h.box, ownsRow_same h.med (fun b e => by cases e; exact hne mb (Ne.symm n3)), h.map.same (hne cb (Ne.symm n2)), h.keys, fun j hj => ?_, fun j u hu => ?_, h.apart, h.apart2, h.sd, h.sm, h.sc, fun i hi => by simpa [World.setCell] using h.lt i hi⟩
  · have hjk : j ≠ k := by rintro rfl; rw [hg] at hj; cases hj
    show (if j = k then _ else d.cac j) = []
    rw [if_neg hjk]; exact h.none_ j hj
  · by_cases e : j = k
    · subst e
      rw [hg] at hu
      cases hu
      obtain ⟨r1, r2⟩ := h.rows j _ hg
      have hl : ((d.cac j).set ((d.cac j).length - 1) s).length = (d.cac j).length := by simp
      show (if j = j then (d.cac j).set ((d.cac j).length - 1) s else d.cac j) ≠ [] ∧ World.ownsRow _ _ _ _ _ (if j = j then (d.cac j).set ((d.cac j).length - 1) s else d.cac j).length ((if j = j then (d.cac j).set ((d.cac j).length - 1) s else d.cac j).map str)
      rw [if_pos rfl, hl, List.map_set]
      refine ⟨fun e => ?_, ownsRow_set r2 (by omega) (str s)⟩
      rw [e] at hl
      simp at hl
      omega
    · show (if j = k then _ else d.cac j) ≠ [] ∧ World.ownsRow _ _ _ _ _ (if j = k then _ else d.cac j).length ((if j = k then _ else d.cac j).map str)
      rw [if_neg e]
      exact ⟨(h.rows j u hu).1, ownsRow_same (h.rows j u hu).2 (fun b hb => hne b (hrow j u (by omega) hu b hb))⟩

set_option maxRecDepth 20000 in
theorem spoil_yes {w : World} {S : Nat → Prop} {bd : Nat} {d : DevD} (h : DevAt w S bd d) (k : Nat) (place : Int) (hp : -9223372036854775808 ≤ place ∧ place ≤ 9223372036854775807) (b : UInt8) (ok : d.Ok) (hv : ∀ k, (d.cac k).length ≤ 1000000) (h0 : d.spoilOk k b = true) :
    Calls Tryz.prog 15 #[.pointer (some ⟨bd, 0, none⟩), .int .i64 k, .int .i64 place, .int .u8 b.toNat] w fun e w' => e = .returned (.bool true) ∧ DevAt w' S bd (d.spoiled k (DevD.flip (d.now k) (DevD.spot place) b)) ∧ Only S w w' := by
  have h1 : d.mayE k = 0 ∧ b ≠ 0 := by
    simp only [DevD.spoilOk, Bool.and_eq_true, decide_eq_true_eq] at h0
    exact ⟨h0.1, by simpa using h0.2⟩
  have HM := Lib.hid (dmay_any h k ok.few)
  rw [h1.1] at HM
  have hkm := DevD.mayE_ok h1.1
  have hk : k < d.med.length := by omega
  have HN := Lib.hid (now_any h k hk ok.few)
  have hlen : (d.now k).length = 64 := by
    unfold DevD.now lastOr
    cases hl : (d.cac k).getLast? with
    | none => 
      have := ok.med d.med[k] (List.getElem_mem hk)
      simpa [DevD.medAt, List.getD_eq_getElem?_getD, List.getElem?_eq_getElem hk] using this
    | some x => exact ok.cac k x (List.mem_of_getLast? hl)
  have hnb : ¬ (b.toNat = 0) := fun e => h1.2 (by apply UInt8.toNat_inj.1; simpa using e)
  have hnb2 : ((b.toNat : Int) == 0) = false := by rw [beq_eq_false_iff_ne]; omega
  obtain ⟨s1, s2, s3⟩ := spot_steps hp
  obtain ⟨c, w2, hconv, hb2, hs2, hcell, hfr⟩ := bytes_new w (d.now k)
  obtain ⟨sl, hsl⟩ : ∃ sl, d.now k = sl := ⟨_, rfl⟩
  rw [hsl] at HN hlen hconv hcell hfr ⊢
  rw [hlen] at hconv hfr
  have HOK := Lib.hid ok
  have HV := Lib.hid hv
  have HB2 := Lib.hid hb2
  have HS2 := Lib.hid hs2
  have HCELL := Lib.hid hcell
  have HLEN := Lib.hid hlen
  have HSP := Lib.hid s2
  obtain ⟨sp, hsp⟩ : ∃ sp, DevD.spot place = sp := ⟨_, rfl⟩
  rw [hsp] at s2 s3 ⊢
  obtain ⟨u, hu⟩ : ∃ u, sl[sp]? = some u := ⟨_, List.getElem?_eq_getElem (by omega)⟩
  have cs := hcell sp u hu
  have HU := Lib.hid hu
  have fs := hfr sp (by omega)
  obtain ⟨mb, mcap, cb, g, hin⟩ := h
  have hon3 : Only S w (w2.setCell ⟨w.heap.size, sp, none⟩ (.int .u8 (bits BinOp.xor IntKind.u8 u.toNat b.toNat))) := (Only.of_below hb2).set (.inr (Nat.le_refl _)) _
  have hin3 := hin.same hon3.size (fun i hi => (Below.heap_setCell w2 _ _ i (by have := hin.lt i hi; show i ≠ w.heap.size; omega)).trans (hb2.block i (hin.lt i hi)))
  obtain ⟨c0, c1, c2, c3⟩ := hin3.cells
  have hlk := hin3.map.look (k := k) (t := 96) Tryz.underlying3 Tryz.underlying96 (zero_strs _) (wfz_in (by omega) (by have := ok.few; omega))
  have hflip : ∀ j, (DevD.flip sl sp b)[j]? = if sp = j then some (u ^^^ b) else sl[j]? := by
    intro j
    unfold DevD.flip
    rw [List.getElem?_set, List.getD_eq_getElem?_getD, hu]
    by_cases e : sp = j
    · rw [if_pos e, if_pos e, if_pos (by omega)]; rfl
    · rw [if_neg e, if_neg e]
  have cellw : ∀ j x, (DevD.flip sl sp b)[j]? = some x → (w2.setCell ⟨w.heap.size, sp, none⟩ (.int .u8 (bits BinOp.xor IntKind.u8 u.toNat b.toNat))).cell? ⟨w.heap.size, j, none⟩ = some (.int .u8 x.toNat) := by
    intro j x hx
    rw [hflip] at hx
    by_cases e : sp = j
    · subst e
      rw [if_pos rfl] at hx
      cases hx
      rw [World.cell?_setCell_same _ _ _ cs, xor_u8]
    · rw [if_neg e] at hx
      rw [World.cell?_setCell_other _ _ _ _ (by intro h; injection h with _ h; exact e h)]
      exact hcell j x hx
  have hfl : (DevD.flip sl sp b).length = 64 := by unfold DevD.flip; rw [List.length_set]; exact hlen
  have hback := fun W (e : ∀ j x, (DevD.flip sl sp b)[j]? = some x → W.cell? ⟨w.heap.size, j, none⟩ = some (.int .u8 x.toNat)) =>
    run_convert_bytes_back (P := Tryz.prog) W 43 9 5 ⟨w.heap.size, 0, none⟩ c (DevD.flip sl sp b) Tryz.underlying43 Tryz.underlying5 Tryz.underlying9
      (fun j hj => by
        have := e j _ (List.getElem?_eq_getElem hj)
        rw [Addr.add_mid, Nat.zero_add]; exact this)
  rw [hfl] at hback
  have hb3 := hback _ cellw
  have hb3d := hback (w2.setCell ⟨w.heap.size, sp, none⟩ (.int .u8 (bits BinOp.xor IntKind.u8 u.toNat b.toNat))).drew (fun j x hx => cellw j x hx)
  have HFL := Lib.hid hfl
  clear hback cellw hflip hfl
  have HIN3 := Lib.hid hin3
  have HON3 := Lib.hid hon3
  clear h0 h1 ok hv hkm hin hin3 hon3 hp hb2 hs2 hcell hfr hnb hsp hu
  have HFEW := Lib.hid HOK.out.few
  cases hg : g k with
  | none =>
    have HC0 := Lib.hid (HIN3.out.none_ k hg)
    rw [hg] at hlk
    simp only [Option.getD_none] at hlk
    clear hg
    have hfz := (HIN3.out.med_at hk).2
    have H7 := Lib.hid (HIN3.out.med_set hk (DevD.flip sl sp b))
    go_enter Tryz.func15, Tryz.ntmps15
    go_wp2_with fail
    refine HM.out.mono ?_
    rintro e w1 ⟨rfl, rfl⟩
    go_wp2_with fail
    refine HN.out.mono ?_
    rintro e w1 ⟨rfl, rfl⟩
    repeat' (first
      | go_values
      | go_skip
      | go_guarded
      | ((fail_if_success (with_reducible refine drawn_mark ?_))
         first
           | go_step
           | go_upon
           | go_back
           | (simp only [Int.not_lt, Int.not_le] at *; go_simp)
           | (go_values <;> (try go_simp))
           | (go_ite <;> go_prune <;> (try go_simp))
           | (split <;> (first | (rename_i hx; exact (hx _ rfl).elim) | go_prune))))
    generalize w2.setCell ⟨w.heap.size, sp, none⟩ (.int .u8 (bits BinOp.xor IntKind.u8 u.toNat b.toNat)) = w3 at *
    refine wp_region_still_tail 8 (by kernel_rfl) (by kernel_rfl) ?_
    simp only [List.take_succ_cons, List.take_zero, List.drop_succ_cons, List.drop_zero]
    repeat still_step
    try refine wpStill_nil ?_
    change wpList _ _ _ _ _ w3.drew
    have hfz2 : w3.drew.frozen? ⟨mb, k, none⟩ = false := hfz
    obtain ⟨cm, _⟩ := HIN3.out.med_at hk
    have cm2 : w3.drew.cell? ⟨mb, k, none⟩ = some (str (d.medAt k)) := cm
    clear hfz cm
    go_wp2_with fail
    go_ret
    refine ⟨rfl, ⟨mb, mcap, cb, g, ?_⟩, (HON3.out.set (.inl HIN3.out.sm) _).drew⟩
    have he : d.spoiled k (DevD.flip sl sp b) = { d with med := d.med.set k (DevD.flip sl sp b) } := by
      unfold DevD.spoiled
      rw [HC0.out]; rfl
    rw [he]
    exact H7.out.same (Nat.le_refl _) (fun _ _ => rfl)
  | some v =>
    obtain ⟨hcac, hvr⟩ := HIN3.out.rows k v hg
    rw [hg] at hlk
    simp only [Option.getD_some] at hlk
    have hpos : 0 < (d.cac k).length := List.length_pos_iff.2 hcac
    obtain ⟨cv, cap3, rfl, _, _⟩ := hvr.form (by omega)
    have hvb := HV.out k
    obtain ⟨n, hn⟩ : ∃ n, (d.cac k).length = n + 1 := ⟨(d.cac k).length - 1, by omega⟩
    have H7 := HIN3.out.row_set hg hpos (DevD.flip sl sp b)
    obtain ⟨x, hx⟩ : ∃ x, (d.cac k)[n]? = some x := ⟨_, List.getElem?_eq_getElem (by omega)⟩
    rw [hn] at hlk hvr H7 hvb
    rw [Nat.add_sub_cancel] at H7
    obtain ⟨cl, fl⟩ := ownsRow_cell hvr (j := n) (u := str x) (by rw [List.getElem?_map, hx]; rfl)
    have H7 := Lib.hid H7
    have HCV := Lib.hid ((HIN3.out.apart _ _ hg).2 cv rfl)
    have HCAC := Lib.hid hcac
    have HHN := Lib.hid hn
    have q6 : wrap64 ((n : Int) + 1 - 1) = n := wrapsA (by omega)
    have q7 : IntKind.i64.wrap (n : Int) = n := wrapsB (by omega)
    clear hg hvr hcac hx hpos hn hvb
    go_enter Tryz.func15, Tryz.ntmps15
    go_wp2_with fail
    refine HM.out.mono ?_
    rintro e w1 ⟨rfl, rfl⟩
    go_wp2_with fail
    refine HN.out.mono ?_
    rintro e w1 ⟨rfl, rfl⟩
    go_wp2_with fail
    go_ret
    refine ⟨rfl, ⟨mb, mcap, cb, g, ?_⟩, (HON3.out.set (.inl HCV.out) _)⟩
    have he : d.spoiled k (DevD.flip sl sp b) = { d with cac := fun j => if j = k then (d.cac j).set ((d.cac j).length - 1) (DevD.flip sl sp b) else d.cac j } := by
      unfold DevD.spoiled
      rw [if_neg (by simpa using HCAC.out)]
    rw [he]
    exact H7.out
end Go.Proofs.YtlpbbjjibnbooaaGreatDoor

namespace Go.Proofs.YtlpbbjjibnbooaaGreatDoor
set_option linter.unusedVariables false
set_option linter.unusedSimpArgs false
open Go.RowKit

end Go.Proofs.YtlpbbjjibnbooaaGreatDoor

namespace Go.Proofs.YtlpbbjjibnbooaaGreatDoor
set_option linter.unusedVariables false
set_option linter.unusedSimpArgs false

/-- The numbers below n that have something. -/
def hasL (p : Nat → Bool) (n : Nat) : List Nat := (List.range n).filter p
namespace DevD
def pre (d : DevD) (k : Nat) : Bool := !(d.cac k).isEmpty
def keys (d : DevD) : List Nat := hasL d.pre d.med.length
/-- After the first m of the cache. -/
def crashed (d : DevD) (keep : List Int) (m : Nat) : DevD := { d with med := d.crashMed keep m, fuse := -1 }
end DevD

end Go.Proofs.YtlpbbjjibnbooaaGreatDoor

namespace Go.Proofs.YtlpbbjjibnbooaaGreatDoor
set_option linter.unusedVariables false
set_option linter.unusedSimpArgs false

section
variable {f : DevD → DevD} {ds : List DevD}
end
end Go.Proofs.YtlpbbjjibnbooaaGreatDoor

namespace Go.Proofs.YtlpbbjjibnbooaaGreatDoor
set_option linter.unusedVariables false
set_option linter.unusedSimpArgs false
open Go.RowKit

namespace DevD
theorem spoil_medlen (d : DevD) (a p : Int) (b : UInt8) : (d.spoil a p b).med.length = d.med.length := by
  unfold spoil
  split
  · unfold spoiled
    split
    · simp
    · rfl
  · rfl
theorem spoil_fuse' (d : DevD) (a p : Int) (b : UInt8) : (d.spoil a p b).fuse = d.fuse := by
  unfold spoil
  split
  · unfold spoiled
    split <;> rfl
  · rfl
theorem spoil_caclen (d : DevD) (a p : Int) (b : UInt8) (k : Nat) : ((d.spoil a p b).cac k).length = (d.cac k).length := by
  unfold spoil
  split
  · unfold spoiled
    split
    · rfl
    · show (if k = a.toNat then _ else d.cac k).length = _
      split
      · rename_i h
        rw [List.length_set, h]
      · rfl
  · rfl
end DevD
def spoilAt (ds : List DevD) (i : Nat) (a p : Int) (b : UInt8) : List DevD := match ds[i]? with
  | some d => ds.set i (d.spoil a p b)
  | none => ds
theorem spoilAt_ok {N secs : Nat} {ds : List DevD} (h : DsOk N secs ds) (i : Nat) (a p : Int) (b : UInt8) : DsOk N secs (spoilAt ds i a p b) := by
  unfold spoilAt
  split
  · rename_i d hd
    intro e he
    rcases List.mem_or_eq_of_mem_set he with he | rfl
    · exact h e he
    · obtain ⟨h1, h2, h3, h4⟩ := h d (List.mem_of_getElem? hd)
      exact ⟨h1.spoil _ _ _, by rw [DevD.spoil_medlen]; exact h2, by rw [DevD.spoil_fuse']; exact h3, fun k => by rw [DevD.spoil_caclen]; exact h4 k⟩
  · exact h
theorem vspoil_any {w : World} {S : Nat → Nat → Prop} {U : Nat → Prop} {y : VX} {aw : List Bool} {ds : List DevD} (h : VdIn w S U y aw ds) {N : Nat} (ok : DsOk N y.secs ds) (hN : N ≤ 1000000) {i b : Nat} (hb : y.bd[i]? = some b) (a place : Int) (hp : -9223372036854775808 ≤ place ∧ place ≤ 9223372036854775807) (by_ : UInt8) :
    Calls Tryz.prog 15 #[.pointer (some ⟨b, 0, none⟩), .int .i64 a, .int .i64 place, .int .u8 by_.toNat] w fun e w' => (∃ r, e = .returned (.bool r)) ∧ VdIn w' S U y aw (spoilAt ds i a place by_) ∧ Stays U w w' := by
  obtain ⟨d, hd⟩ : ∃ d, ds[i]? = some d := ⟨_, List.getElem?_eq_getElem (by rw [h.n2]; exact (List.getElem?_eq_some_iff.1 hb).1)⟩
  have hdev := h.dev i b d hb hd
  obtain ⟨o1, o2, o3, o4⟩ := ok d (List.mem_of_getElem? hd)
  have hs : spoilAt ds i a place by_ = ds.set i (d.spoil a place by_) := by unfold spoilAt; rw [hd]
  rw [hs]
  cases h0 : d.spoilOk a by_ with
  | false =>
    refine (spoil_no hdev a place by_ o1.few h0).mono ?_
    rintro e w' ⟨rfl, rfl⟩
    have : d.spoil a place by_ = d := by unfold DevD.spoil; rw [h0]; rfl
    rw [this]
    refine ⟨⟨_, rfl⟩, ?_, stays_refl _⟩
    rw [show ds.set i d = ds from by
      apply List.ext_getElem?
      intro j
      rw [List.getElem?_set]
      by_cases e : i = j
      · subst e; rw [if_pos rfl, if_pos (List.getElem?_eq_some_iff.1 hd).1, hd]
      · rw [if_neg e]]
    exact h
  | true =>
    have hm : d.mayE a = 0 := by simp only [DevD.spoilOk, Bool.and_eq_true, decide_eq_true_eq] at h0; exact h0.1
    obtain ⟨k, rfl⟩ := Int.eq_ofNat_of_zero_le (DevD.mayE_ok hm).1
    have hsp : d.spoil k place by_ = d.spoiled k (DevD.flip (d.now k) (DevD.spot place) by_) := by unfold DevD.spoil; rw [h0]; rfl
    refine (spoil_yes hdev k place hp by_ o1 (fun k => Nat.le_trans (o4 k) hN) h0).mono ?_
    rintro e w' ⟨rfl, hd', ho⟩
    rw [← hsp] at hd'
    have hmed : (d.spoil k place by_).med.length = y.secs := by rw [DevD.spoil_medlen]; exact o2
    refine ⟨⟨_, rfl⟩, ?_, Only.mono ho (fun g _ hg hU => h.fx i g hg hU)⟩
    have hst := h.step hb ho (hd'.more ho.size (fun b hb => h.lt i b hb)) hmed
    refine ⟨hst.geo, hst.right, hst.nd, hst.n1, hst.n2, hst.row, hst.box, fun j c e hc he => ?_, hst.sz, fun j c hj => Nat.lt_of_lt_of_le (h.lt j c hj) ho.size, h.fx, h.apart, hst.us, h.ug, h.ul, h.ua, h.ne⟩
    rw [List.getElem?_set] at he
    by_cases e' : i = j
    · subst e'
      rw [if_pos rfl] at he
      split at he
      · cases he
        rw [hb] at hc
        cases hc
        exact hd'
      · cases he
    · rw [if_neg e'] at he
      obtain ⟨mb, mcap, cb, g, hh⟩ := h.dev j c e hc he
      exact ⟨mb, mcap, cb, g, hh.same ho.size (fun b hS => ho.block b (h.lt j b hS) (fun hS2 => e' (h.apart i j b hS2 hS)))⟩
/-- The example. -/
instance : DecidableEq UbD := fun a b => decidable_of_iff (a.t = b.t ∧ a.n = b.n ∧ a.p = b.p) ⟨fun h => by cases a; cases b; obtain ⟨h1, h2, h3⟩ := h; dsimp only at h1 h2 h3; subst h1 h2 h3; rfl, fun h => by subst h; exact ⟨rfl, rfl, rfl⟩⟩
def gx18 : List (Int × Int) := [(0, 2)]
def ax18 : List Bool := [false, false]
def d18 : List DevD := List.replicate 2 (DevD.blank 24 0)
def d18a : List DevD := uwD gx18 ((24 : Nat) : Int) ax18 5 0 ptrZ d18
def d18b : List DevD := uwD gx18 ((24 : Nat) : Int) ax18 6 0 ptrZ d18a
def d18c : List DevD := spoilAt (spoilAt d18b 0 8 0 1) 1 9 0 1
theorem ex18a : uwE gx18 ((24 : Nat) : Int) ax18 5 0 ptrZ d18 = 0 ∧ uwE gx18 ((24 : Nat) : Int) ax18 6 0 ptrZ d18a = 0 := by decide +kernel
theorem ex18b : ∀ d, d < 2 → uoD gx18 ((24 : Nat) : Int) ax18 d18b d 0 = (ubZ, 3) ∧ uoD gx18 ((24 : Nat) : Int) ax18 d18b d 1 = (⟨5, 0, ptrZ⟩, 0) ∧ uoD gx18 ((24 : Nat) : Int) ax18 d18b d 2 = (⟨6, 0, ptrZ⟩, 0) ∧ uoD gx18 ((24 : Nat) : Int) ax18 d18b d 3 = (ubZ, 3) := by decide +kernel
theorem ex18c : ∀ d, d < 2 → uoD gx18 ((24 : Nat) : Int) ax18 d18c d 0 = (ubZ, 3) ∧ uoD gx18 ((24 : Nat) : Int) ax18 d18c d 1 = (⟨5, 0, ptrZ⟩, 0) ∧ uoD gx18 ((24 : Nat) : Int) ax18 d18c d 2 = (ubZ, 4) ∧ uoD gx18 ((24 : Nat) : Int) ax18 d18c d 3 = (ubZ, 3) := by decide +kernel
end Go.Proofs.YtlpbbjjibnbooaaGreatDoor

namespace Go.Proofs.YtlpbbjjibnbooaaGreatDoor
set_option linter.unusedVariables false
set_option linter.unusedSimpArgs false
open Go.RowKit

theorem ex18d : bestR gx18 ((24 : Nat) : Int) ax18 d18b 2 = (⟨6, 0, ptrZ⟩, 0) ∧ bestR gx18 ((24 : Nat) : Int) ax18 d18c 2 = (⟨5, 0, ptrZ⟩, 0) := by
  obtain ⟨a0, a1, a2, a3⟩ := ex18b 0 (by decide)
  obtain ⟨b0, b1, b2, b3⟩ := ex18b 1 (by decide)
  obtain ⟨c0, c1, c2, c3⟩ := ex18c 0 (by decide)
  obtain ⟨d0, d1, d2, d3⟩ := ex18c 1 (by decide)
  generalize ((24 : Nat) : Int) = sc at a0 a1 a2 a3 b0 b1 b2 b3 c0 c1 c2 c3 d0 d1 d2 d3 ⊢
  constructor
  · simp [bestR, bestA, bestD, List.range_succ, a0, a1, a2, a3, b0, b1, b2, b3, bestStep, ubZ]
  · simp [bestR, bestA, bestD, List.range_succ, c0, c1, c2, c3, d0, d1, d2, d3, bestStep, ubZ]
theorem build_ub1 (t : Int) (W : World) : (Instr.build 35 #[(0, .int .i64 t)]).run Tryz.prog W = .ok (.agg #[.int .i64 t, .int .i64 0, .int .i64 0, .int .i64 0, .int .i64 0, .int .i64 0, .bool false, .int .i64 0, .int .i64 0, .int .i64 0, .int .u64 0, .int .u64 0, .int .u64 0, .int .u64 0]) W := by kernel_rfl
theorem slAt_none (w : World) (cs : List Value) : SlAt w (.slice none 0 0) 0 cs := ⟨none, 0, rfl, Nat.le_refl _, fun h => absurd h (Nat.lt_irrefl 0)⟩
theorem aw18 : awT [] 2 2 = ax18 ∧ lsT [] (DevD.blank 24 0) 2 2 = d18 := ⟨rfl, rfl⟩
set_option maxRecDepth 20000 in
set_option maxHeartbeats 2000000 in
theorem awake18_any (w : World) : Calls Tryz.prog 8 #[] w fun e w' => e = .returned (.bool true) ∧ Below w.heap.size w w' := by
  have hbu := build_ub1
  obtain ⟨w1, hw1⟩ : ∃ z, w.alloc (.cells #[.int .i64 0, .int .i64 2] 71) = z := ⟨_, rfl⟩
  have hg : GeoAt w1 (some ⟨w.heap.size, 0, none⟩) 1 [(0, 2)] := by rw [← hw1]; exact geo_ex w
  have hb1 : Below w.heap.size w w1 := by rw [← hw1]; exact keep_alloc (Below.refl _ _) _
  have HN := Lib.hid (devices_any2 (c := 1) (secs := 24) hg (by decide) (by decide) (n := 2) (by decide) (al := []) (ll := []) (slAt_none w1 _) (slAt_none w1 _))
  have HB1 := Lib.hid hb1
  have HW1 := Lib.hid hw1
  clear hg hb1 hw1
  go_enter Tryz.func8, Tryz.ntmps8
  go_wp2_with fail
  rw [HW1.out]
  refine HN.out.mono ?_
  rintro e w3 ⟨y, S, U, hv, rfl, hys, hysec, hyn, hV, hU, _, _, hb3⟩
  rw [aw18.1, aw18.2] at hV
  obtain ⟨w4, hw4⟩ : ∃ z, w3.alloc (.cells y.cells 50) = z := ⟨_, rfl⟩
  have hX4 : Blk w4 w3.heap.size 50 y.cells := by rw [← hw4]; exact Blk.new _ _ _
  have hb4 : Below w3.heap.size w3 w4 := by rw [← hw4]; exact keep_alloc (Below.refl _ _) _
  obtain ⟨U1, hU1⟩ : ∃ U1, U1 = more U w3 w4 := ⟨_, rfl⟩
  have hV4 : VdIn w4 S U1 y ax18 d18 := by rw [hU1]; exact hV.more hb4
  have hu1 : U1 w3.heap.size ∧ ∀ b, b < w1.heap.size → U1 b := by rw [hU1]; exact ⟨.inr ⟨Nat.le_refl _, hX4.lt⟩, fun b hb => .inl (hU b hb)⟩
  have hok : DsOk 0 y.secs d18 := by rw [hysec]; exact blanks_ok (by decide) (by decide)
  have hoka : DsOk 8 y.secs d18a := ubAll_ok (aw := ax18) (base := 4) (s := ubL gx18 ((24 : Nat) : Int) 5 0 ptrZ) hok 2
  have hokb : DsOk 16 y.secs d18b := ubAll_ok (aw := ax18) (base := 8) (s := ubL gx18 ((24 : Nat) : Int) 6 0 ptrZ) hoka 2
  have hokc := spoilAt_ok hokb 0 8 0 1
  have hokd : DsOk 16 y.secs d18c := spoilAt_ok hokc 1 9 0 1
  have hys' : y.gs = gx18 := hys
  have hwr5 := uwrite_any hV4 (by omega) hok (by decide) (by omega) 5 0 ptrZ ptrZ_ok
  rw [hys', hysec, ex18a.1] at hwr5
  have HWR5 : Hid (Calls Tryz.prog 13 #[y.val, .agg #[.int .i64 5, .int .i64 0, .int .i64 0, .int .i64 0, .int .i64 0, .int .i64 0, .bool false, .int .i64 0, .int .i64 0, .int .i64 0, .int .u64 0, .int .u64 0, .int .u64 0, .int .u64 0]] w4 fun e w' => (∃ k, e = .returned (.tuple #[.int .i64 k, .int .i64 0])) ∧ (∃ S', VdIn w' S' U1 y ax18 d18a) ∧ Stays U1 w4 w') :=
    Lib.hid (hwr5.mono fun e w' ⟨h1, h2, h3⟩ => ⟨⟨_, h1⟩, h2, h3⟩)
  have HWR6 : Hid (∀ (S' : Nat → Nat → Prop) (W : World), VdIn W S' U1 y ax18 d18a → Calls Tryz.prog 13 #[y.val, .agg #[.int .i64 6, .int .i64 0, .int .i64 0, .int .i64 0, .int .i64 0, .int .i64 0, .bool false, .int .i64 0, .int .i64 0, .int .i64 0, .int .u64 0, .int .u64 0, .int .u64 0, .int .u64 0]] W fun e w' => (∃ k, e = .returned (.tuple #[.int .i64 k, .int .i64 0])) ∧ (∃ S', VdIn w' S' U1 y ax18 d18b) ∧ Stays U1 W w') := Lib.hid fun S' W hW => by
    have := uwrite_any hW (by omega) hoka (by decide) (by omega) 6 0 ptrZ ptrZ_ok
    rw [hys', hysec, ex18a.2] at this
    exact this.mono fun e w' ⟨h1, h2, h3⟩ => ⟨⟨_, h1⟩, h2, h3⟩
  have HBE1 : Hid (∀ (S' : Nat → Nat → Prop) (W : World), VdIn W S' U1 y ax18 d18b → Calls Tryz.prog 14 #[y.val] W fun e w' => e = .returned (.tuple #[.agg #[.int .i64 6, .int .i64 0, .int .i64 0, .int .i64 0, .int .i64 0, .int .i64 0, .bool false, .int .i64 0, .int .i64 0, .int .i64 0, .int .u64 0, .int .u64 0, .int .u64 0, .int .u64 0], .int .i64 0]) ∧ Below W.heap.size W w') := Lib.hid fun S' W hW => by
    have := ubest_any hW (by omega) hokb
    rw [hys', hysec, hyn, ex18d.1] at this
    exact this
  have HBE2 : Hid (∀ (S' : Nat → Nat → Prop) (U' : Nat → Prop) (W : World), VdIn W S' U' y ax18 d18c → Calls Tryz.prog 14 #[y.val] W fun e w' => e = .returned (.tuple #[.agg #[.int .i64 5, .int .i64 0, .int .i64 0, .int .i64 0, .int .i64 0, .int .i64 0, .bool false, .int .i64 0, .int .i64 0, .int .i64 0, .int .u64 0, .int .u64 0, .int .u64 0, .int .u64 0], .int .i64 0]) ∧ Below W.heap.size W w') := Lib.hid fun S' U' W hW => by
    have := ubest_any hW (by omega) hokd
    rw [hys', hysec, hyn, ex18d.2] at this
    exact this
  obtain ⟨p0, hp0⟩ : ∃ b, y.bd[0]? = some b := ⟨_, List.getElem?_eq_getElem (by omega)⟩
  obtain ⟨p1, hp1⟩ : ∃ b, y.bd[1]? = some b := ⟨_, List.getElem?_eq_getElem (by omega)⟩
  have HSP1 : Hid (∀ (S' : Nat → Nat → Prop) (U' : Nat → Prop) (W : World), VdIn W S' U' y ax18 d18b → Calls Tryz.prog 15 #[.pointer (some ⟨p0, 0, none⟩), .int .i64 8, .int .i64 0, .int .u8 1] W fun e w' => (∃ r, e = .returned (.bool r)) ∧ VdIn w' S' U' y ax18 (spoilAt d18b 0 8 0 1) ∧ Stays U' W w') := Lib.hid fun S' U' W hW => vspoil_any hW hokb (by decide) hp0 8 0 (by decide) 1
  have HSP2 : Hid (∀ (S' : Nat → Nat → Prop) (U' : Nat → Prop) (W : World), VdIn W S' U' y ax18 (spoilAt d18b 0 8 0 1) → Calls Tryz.prog 15 #[.pointer (some ⟨p1, 0, none⟩), .int .i64 9, .int .i64 0, .int .u8 1] W fun e w' => (∃ r, e = .returned (.bool r)) ∧ VdIn w' S' U' y ax18 d18c ∧ Stays U' W w') := Lib.hid fun S' U' W hW => vspoil_any hW hokc (by decide) hp1 9 0 (by decide) 1
  have HPP := Lib.hid (And.intro hp0 hp1)
  have HV4 := Lib.hid (And.intro hV4 (And.intro hX4 hu1))
  have HW4 := Lib.hid hw4
  have HBB := Lib.hid (keep_below hb4 (keep_below hb3 HB1.out))
  have hc : ((y.bd.length : Int) != 2) = false := by rw [hyn]; rfl
  have hn0 : 0 < y.bd.length := by omega
  have hn1 : 1 < y.bd.length := by omega
  have x0 := (hX4).at_ (i := 0) (v := .slice (some ⟨y.gb, 0, none⟩) y.m y.cc) rfl
  have x1 := (hX4).at_ (i := 1) (v := .int .i64 y.secs) rfl
  have x2 := (hX4).at_ (i := 2) (v := .slice (some ⟨y.lb, 0, none⟩) y.bd.length y.lc) rfl
  have x3 := (hX4).at_ (i := 3) (v := .slice (some ⟨y.ab, 0, none⟩) y.bd.length y.bd.length) rfl
  rw [← hw4] at x0 x1 x2 x3
  clear hys hysec hV hU hb3 hw4 hX4 hb4 hU1 hV4 hu1 hok hoka hokb hokc hokd hys' hwr5 hp0 hp1 hyn HN
  go_wp2_with fail
  rw [HW4.out]
  refine HWR5.out.mono ?_
  rintro e w5 ⟨⟨k5, rfl⟩, ⟨S5, hV5⟩, hst5⟩
  have hX5 : Blk w5 w3.heap.size 50 y.cells := (hst5.heap HV4.out.2.2.1 HV4.out.2.1.lt).trans HV4.out.2.1
  have H5 := Lib.hid (And.intro hV5 (And.intro hX5 hst5))
  clear x0 x1 x2 x3 hc hV5 hst5
  have x0 := (hX5).at_ (i := 0) (v := .slice (some ⟨y.gb, 0, none⟩) y.m y.cc) rfl
  have x1 := (hX5).at_ (i := 1) (v := .int .i64 y.secs) rfl
  have x2 := (hX5).at_ (i := 2) (v := .slice (some ⟨y.lb, 0, none⟩) y.bd.length y.lc) rfl
  have x3 := (hX5).at_ (i := 3) (v := .slice (some ⟨y.ab, 0, none⟩) y.bd.length y.bd.length) rfl
  clear hX5
  go_wp2_with fail
  refine (HWR6.out _ _ H5.out.1).mono ?_
  rintro e w6 ⟨⟨k6, rfl⟩, ⟨S6, hV6⟩, hst6⟩
  have hX6 : Blk w6 w3.heap.size 50 y.cells := (hst6.heap HV4.out.2.2.1 H5.out.2.1.lt).trans H5.out.2.1
  have H6 := Lib.hid (And.intro hV6 (And.intro hX6 (H5.out.2.2.trans hst6)))
  clear x0 x1 x2 x3 hV6 hst6
  have x0 := (hX6).at_ (i := 0) (v := .slice (some ⟨y.gb, 0, none⟩) y.m y.cc) rfl
  have x1 := (hX6).at_ (i := 1) (v := .int .i64 y.secs) rfl
  have x2 := (hX6).at_ (i := 2) (v := .slice (some ⟨y.lb, 0, none⟩) y.bd.length y.lc) rfl
  have x3 := (hX6).at_ (i := 3) (v := .slice (some ⟨y.ab, 0, none⟩) y.bd.length y.bd.length) rfl
  clear hX6
  go_wp2_with fail
  refine (HBE1.out _ _ H6.out.1).mono ?_
  rintro e w7 ⟨rfl, hb7⟩
  obtain ⟨w8, hw8⟩ : ∃ z, w7.alloc (.cells #[.int .i64 6, .int .i64 0, .int .i64 0, .int .i64 0, .int .i64 0, .int .i64 0, .bool false, .int .i64 0, .int .i64 0, .int .i64 0, .int .u64 0, .int .u64 0, .int .u64 0, .int .u64 0] 35) = z := ⟨_, rfl⟩
  have hb8 : Below w6.heap.size w6 w8 := by rw [← hw8]; exact keep_alloc hb7 _
  have hN8 : Blk w8 w7.heap.size 35 #[.int .i64 6, .int .i64 0, .int .i64 0, .int .i64 0, .int .i64 0, .int .i64 0, .bool false, .int .i64 0, .int .i64 0, .int .i64 0, .int .u64 0, .int .u64 0, .int .u64 0, .int .u64 0] := by rw [← hw8]; exact Blk.new _ _ _
  obtain ⟨U2, hU2⟩ : ∃ U2, U2 = more U1 w6 w8 := ⟨_, rfl⟩
  have hV8 : VdIn w8 S6 U2 y ax18 d18b := by rw [hU2]; exact H6.out.1.more hb8
  have hu2 : U2 w7.heap.size ∧ ∀ b, U1 b → U2 b := by rw [hU2]; exact ⟨.inr ⟨hb7.size, hN8.lt⟩, fun b hb => .inl hb⟩
  have hX8 := H6.out.2.1.below hb8 H6.out.2.1.lt
  have hr8 := hV8.row 0 p0 HPP.out.1
  have H8 := Lib.hid (And.intro hV8 (And.intro hX8 (And.intro hN8 (And.intro hu2 hb8))))
  have HW8 := Lib.hid hw8
  clear x0 x1 x2 x3
  have x0 := (hX8).at_ (i := 0) (v := .slice (some ⟨y.gb, 0, none⟩) y.m y.cc) rfl
  have x1 := (hX8).at_ (i := 1) (v := .int .i64 y.secs) rfl
  have x2 := (hX8).at_ (i := 2) (v := .slice (some ⟨y.lb, 0, none⟩) y.bd.length y.lc) rfl
  have x3 := (hX8).at_ (i := 3) (v := .slice (some ⟨y.ab, 0, none⟩) y.bd.length y.bd.length) rfl
  rw [← hw8] at x0 x1 x2 x3 hr8
  clear hb7 hw8 hb8 hN8 hU2 hV8 hu2 hX8
  go_wp2_with fail
  rw [HW8.out]
  refine (HSP1.out _ _ _ H8.out.1).mono ?_
  rintro e w9 ⟨⟨r9, rfl⟩, hV9, hst9⟩
  have hX9 : Blk w9 w3.heap.size 50 y.cells := (hst9.heap (H8.out.2.2.2.1.2 _ HV4.out.2.2.1) H8.out.2.1.lt).trans H8.out.2.1
  have hr9 := hV9.row 1 p1 HPP.out.2
  have H9 := Lib.hid (And.intro hV9 (And.intro hX9 hst9))
  clear x0 x1 x2 x3 hr8 hV9 hst9
  have x0 := (hX9).at_ (i := 0) (v := .slice (some ⟨y.gb, 0, none⟩) y.m y.cc) rfl
  have x1 := (hX9).at_ (i := 1) (v := .int .i64 y.secs) rfl
  have x2 := (hX9).at_ (i := 2) (v := .slice (some ⟨y.lb, 0, none⟩) y.bd.length y.lc) rfl
  have x3 := (hX9).at_ (i := 3) (v := .slice (some ⟨y.ab, 0, none⟩) y.bd.length y.bd.length) rfl
  clear hX9
  go_wp2_with fail
  refine (HSP2.out _ _ _ H9.out.1).mono ?_
  rintro e w10 ⟨⟨r10, rfl⟩, hV10, hst10⟩
  have hX10 : Blk w10 w3.heap.size 50 y.cells := (hst10.heap (H8.out.2.2.2.1.2 _ HV4.out.2.2.1) H9.out.2.1.lt).trans H9.out.2.1
  have H10 := Lib.hid (And.intro hV10 (And.intro hX10 (H9.out.2.2.trans hst10)))
  clear x0 x1 x2 x3 hr9 hV10 hst10
  have x0 := (hX10).at_ (i := 0) (v := .slice (some ⟨y.gb, 0, none⟩) y.m y.cc) rfl
  have x1 := (hX10).at_ (i := 1) (v := .int .i64 y.secs) rfl
  have x2 := (hX10).at_ (i := 2) (v := .slice (some ⟨y.lb, 0, none⟩) y.bd.length y.lc) rfl
  have x3 := (hX10).at_ (i := 3) (v := .slice (some ⟨y.ab, 0, none⟩) y.bd.length y.bd.length) rfl
  clear hX10
  go_wp2_with fail
  refine (HBE2.out _ _ _ H10.out.1).mono ?_
  rintro e w11 ⟨rfl, hb11⟩
  obtain ⟨w12, hw12⟩ : ∃ z, w11.alloc (.cells #[.int .i64 5, .int .i64 0, .int .i64 0, .int .i64 0, .int .i64 0, .int .i64 0, .bool false, .int .i64 0, .int .i64 0, .int .i64 0, .int .u64 0, .int .u64 0, .int .u64 0, .int .u64 0] 35) = z := ⟨_, rfl⟩
  have hb12 : Below w10.heap.size w10 w12 := by rw [← hw12]; exact keep_alloc hb11 _
  have hN12 : Blk w12 w11.heap.size 35 #[.int .i64 5, .int .i64 0, .int .i64 0, .int .i64 0, .int .i64 0, .int .i64 0, .bool false, .int .i64 0, .int .i64 0, .int .i64 0, .int .u64 0, .int .u64 0, .int .u64 0, .int .u64 0] := by rw [← hw12]; exact Blk.new _ _ _
  have hN8 : Blk w10 w7.heap.size 35 #[.int .i64 6, .int .i64 0, .int .i64 0, .int .i64 0, .int .i64 0, .int .i64 0, .bool false, .int .i64 0, .int .i64 0, .int .i64 0, .int .u64 0, .int .u64 0, .int .u64 0, .int .u64 0] := (H10.out.2.2.heap H8.out.2.2.2.1.1 H8.out.2.2.1.lt).trans H8.out.2.2.1
  have n0 := (hN8.below hb12 hN8.lt).at_ (i := 0) (v := .int .i64 6) rfl
  have n1 := hN12.at_ (i := 0) (v := .int .i64 5) rfl
  have hbf : Below w.heap.size w w12 := by
    have h1 := HB1.out.size
    have b4 := HBB.out
    have hu : ∀ i, i < w.heap.size → U1 i := fun i hi => HV4.out.2.2.2 i (by omega)
    have b6 := b4.trans (H6.out.2.2.below b4.size hu)
    have b8 := b6.trans (H8.out.2.2.2.2.mono b6.size)
    have b10 := b8.trans (H10.out.2.2.below b8.size (fun i hi => H8.out.2.2.2.1.2 i (hu i hi)))
    exact b10.trans (hb12.mono b10.size)
  have HBF := Lib.hid hbf
  have HW12 := Lib.hid hw12
  rw [← hw12] at n0 n1
  clear x0 x1 x2 x3 hb11 hw12 hb12 hN12 hN8 hbf
  go_wp2_with fail
  go_ret
  rw [HW12.out]
  exact ⟨rfl, HBF.out⟩
end Go.Proofs.YtlpbbjjibnbooaaGreatDoor

namespace Go.Proofs.YtlpbbjjibnbooaaGreatDoor
set_option linter.unusedVariables false
set_option linter.unusedSimpArgs false
open Go.RowKit

theorem nodeL_eq {n : Int} {p : PtrD} (h : nodeOk n p = true) (op : p.Ok) : nodeL n p = layL n.toNat 8 ++ (layL 1 8 ++ (ptrL p ++ List.replicate 48 0)) := by
  simp only [nodeOk, Bool.and_eq_true] at h
  have hl : (layL n.toNat 8 ++ (layL 1 8 ++ ptrL p)).length = 80 := by simp [layL_len, ptrL_len h.2 op]
  unfold nodeL padL
  rw [if_pos (by decide), hl]
  simp only [List.append_assoc]
  rfl
/-- What is laid is read as it was. -/
theorem rn_back {n : Int} {p : PtrD} (h : nodeOk n p = true) (op : p.Ok) : rnD (nodeL n p) = (n, p, true, 0) ∧ (nodeL n p).length = 128 := by
  have he := nodeL_eq h op
  simp only [nodeOk, Bool.and_eq_true, decide_eq_true_eq] at h
  obtain ⟨⟨hn1, hn2⟩, hly⟩ := h
  obtain ⟨b1, b2, b3⟩ := lay_back hly op
  have hlen : (nodeL n p).length = 128 := by rw [he]; simp [layL_len, b3]
  refine ⟨?_, hlen⟩
  generalize nodeL n p = s at *
  have k0 : s.drop 0 = _ := he
  have k1 := drop_step k0 (layL_len _ _)
  have k2 := drop_step k1 (layL_len _ _)
  have k3 := drop_step k2 b3
  have m0 := subN_of k0 rfl (by omega)
  have m1 := subN_of k1 rfl (by omega)
  simp only [Nat.zero_add, Nat.reduceAdd] at m0 m1 k1 k2 k3
  have hr : (s.drop 16).take 64 = ptrL p := by rw [k2, takeApp b3]
  have hz : allZ s = false := by
    unfold allZ
    rw [List.all_eq_false]
    refine ⟨1, ?_, by decide⟩
    rw [he]
    have : (1 : UInt8) ∈ layL 1 8 := by decide
    simp [this]
  unfold rnD
  rw [if_neg (by omega), if_neg (by omega), if_neg (by rw [hz]; simp), m0, if_neg (by omega), m1, if_neg (by simp), hr, if_neg (by rw [b1]; simp), k3, if_pos (by decide), b2, Int.toNat_of_nonneg hn1]

end Go.Proofs.YtlpbbjjibnbooaaGreatDoor
