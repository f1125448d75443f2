/-
  Contracts of package dev: Spoil.
  Bytes of devices that are spoilt; the document's example (layer 10).
-/
import Derived.Test.YtbhkbcpljakmjaaGreatJ04
import Derived.Laws.BitsAllLaws
import Derived.Test.YtbhkbcpljakmjaaGreatJ27
import Derived.Test.YtbhkbcpljakmjaaGreatJ19
namespace Go.Proofs.YtbhkbcpljakmjaaGreat
set_option linter.unusedVariables false
set_option linter.unusedSimpArgs false
open Go.RowKit
theorem wrapsA {j : Nat} (hn : j ≤ 1000000) : wrap64 ((j : Int) + 1 - 1) = j := by rw [IntWalk.wrap64_in _ (by omega)]; omega
theorem wrapsB {j : Nat} (hn : j ≤ 1000000) : IntKind.i64.wrap (j : Int) = j := (IntWalk.i64_left j).trans (IntWalk.wrap64_in _ (by omega))
theorem spot_steps {p : Int} (hp : -9223372036854775808 ≤ p ∧ p ≤ 9223372036854775807) :
 wrap64 (p.tmod 64 + 64) = p.tmod 64 + 64 ∧ (p.tmod 64 + 64).tmod 64 = (DevD.spot p : Int) ∧ DevD.spot p < 64 := by
 have h1 : p.tmod 64 < 64 := Int.tmod_lt_of_pos _ (by omega)
 have h2 : -64 < p.tmod 64 := Int.lt_tmod_of_pos p (by omega)
 have h3 : (p.tmod 64 + 64).tmod 64 < 64 := Int.tmod_lt_of_pos _ (by omega)
 have h4 : 0 ≤ (p.tmod 64 + 64).tmod 64 := Int.tmod_nonneg _ (by omega)
 refine ⟨IntWalk.wrap64_in _ (by omega), ?_, ?_⟩
 · unfold DevD.spot; omega
 · unfold DevD.spot; omega
theorem bytes_new (w : World) (s : List UInt8) : ∃ (c : Nat) (w' : World), (convert 9 79 (str s)).run Tryz.prog w = .ok (.slice (some ⟨w.heap.size, 0, none⟩) s.length c) w' ∧ Below w.heap.size w w' ∧ w'.heap.size = w.heap.size + 1 ∧
 (∀ j u, s[j]? = some u → w'.cell? ⟨w.heap.size, j, none⟩ = some (.int .u8 u.toNat)) ∧ ∀ j, j < s.length → w'.frozen? ⟨w.heap.size, j, none⟩ = false := by
 have h := run_bytes_of_string (P := Tryz.prog) w 9 79 5 ⟨s.toArray⟩ Tryz.underlying9 Tryz.underlying79 Tryz.underlying5
 have hsz : (⟨s.toArray⟩ : ByteArray).size = s.length := by simp [ByteArray.size]
 rw [hsz] at h
 generalize grownCap w s.length 0 5 = c at h
 have hlen : s.length ≤ (bytesRow ⟨s.toArray⟩ c).size := by simp [bytesRow, ByteArray.size]
 refine ⟨c, _, h, (Below.refl _ w).drew.alloc (Nat.le_refl _) _, by show (w.drew.alloc _).heap.size = w.drew.heap.size + 1; simp, fun j u hu => ?_, fun j hj => ?_⟩
 · obtain ⟨hj, rfl⟩ := List.getElem?_eq_some_iff.1 hu
   have := bytesRow_at ⟨s.toArray⟩ c j (by simpa using hj)
   have h2 : w.drew.heap.size = w.heap.size := rfl
   rw [← h2, cell_of_row _ _ _ _ _ _ (heap_alloc_new w.drew _), this]
   simp
 · have h2 : w.drew.heap.size = w.heap.size := rfl
   rw [← h2]
   simp only [World.frozen?, heap_alloc_new]
   simp only [Bool.and_eq_false_imp, decide_eq_true_eq, decide_eq_false_iff_not]
   omega
theorem spoil_no {w : World} {S : Nat → Prop} {bd : Nat} {d : DevD} (h : DevAt w S bd d) (a place : Int) (b : UInt8) (few : d.med.length ≤ 4096) (h0 : d.spoilOk a b = false) :
 Calls Tryz.prog 10 #[.pointer (some ⟨bd, 0, none⟩), .int .i64 a, .int .i64 place, .int .u8 b.toNat] w fun e w' => e = .returned (.bool false) ∧ w = w' := by
 have HM := Lib.hid (dmay_any h a few)
 by_cases h1 : d.mayE a = 0
 · rw [h1] at HM
   have hb : b = 0 := by
    simp only [DevD.spoilOk, h1, decide_true, Bool.true_and] at h0
    simpa using h0
   subst hb
   clear h0 h1 h
   go_enter Tryz.func10, Tryz.ntmps10
   go_wp2_with fail
   refine HM.out.mono ?_
   rintro e w1 ⟨rfl, rfl⟩
   go_wp2_with fail
   go_ret
   exact ⟨rfl, rfl⟩
 · have hne : (d.mayE a != 0) = true := by simpa using h1
   clear h0 h1 h
   generalize d.mayE a = E at *
   go_enter Tryz.func10, Tryz.ntmps10
   go_wp2_with fail
   refine HM.out.mono ?_
   rintro e w1 ⟨rfl, rfl⟩
   go_wp2_with fail
   go_ret
   exact ⟨rfl, rfl⟩
theorem xor_u8 (u b : UInt8) : bits BinOp.xor IntKind.u8 u.toNat b.toNat = ((u ^^^ b).toNat : Int) :=
 (u8_xor_nat u.toNat b.toNat u.toNat_lt b.toNat_lt).trans (by rw [UInt8.toNat_xor])
theorem DevIn.row_set {w : World} {S : Nat → Prop} {bd mb mcap cb : Nat} {d : DevD} {g : Int → Option Value} (h : DevIn w S bd d mb mcap cb g) {k cv cap : Nat} (hg : g (k : Int) = some (.slice (some ⟨cv, 0, none⟩) (d.cac k).length cap))
 (hp : 0 < (d.cac k).length) (s : List UInt8) : DevIn (w.setCell ⟨cv, (d.cac k).length - 1, none⟩ (str s)) S bd { d with cac := fun j => if j = k then (d.cac j).set ((d.cac j).length - 1) s else d.cac j } mb mcap cb g := by
 have hne : ∀ i, i ≠ cv → (w.setCell ⟨cv, (d.cac k).length - 1, none⟩ (str s)).heap[i]? = w.heap[i]? := fun i hi => Below.heap_setCell w _ _ i hi
 obtain ⟨n1, n2, n3⟩ := h.row_nes hg cv rfl
 have hrow : ∀ (j : Int) u, j ≠ k → g j = some u → ∀ b, u.ownBlock = some b → b ≠ cv := by
  rintro j u hj hu b hb rfl
  exact hj (h.apart2 j k u _ hu hg hb)
 refine ⟨(hne bd (Ne.symm n1)).trans h.box, ownsRow_same h.med (fun b e => by cases e; exact hne mb (Ne.symm n3)), h.map.same (hne cb (Ne.symm n2)), h.keys, fun j hj => ?_, fun j u hu => ?_, h.apart, h.apart2, h.sd, h.sm, h.sc, fun i hi => by simpa [World.setCell] using h.lt i hi⟩
 · have hjk : j ≠ k := by rintro rfl; rw [hg] at hj; cases hj
   show (if j = k then _ else d.cac j) = []
   rw [if_neg hjk]; exact h.none_ j hj
 · by_cases e : j = k
   · subst e
     rw [hg] at hu
     cases hu
     obtain ⟨r1, r2⟩ := h.rows j _ hg
     have hl : ((d.cac j).set ((d.cac j).length - 1) s).length = (d.cac j).length := by simp
     show (if j = j then (d.cac j).set ((d.cac j).length - 1) s else d.cac j) ≠ [] ∧ World.ownsRow _ _ _ _ _ (if j = j then (d.cac j).set ((d.cac j).length - 1) s else d.cac j).length ((if j = j then (d.cac j).set ((d.cac j).length - 1) s else d.cac j).map str)
     rw [if_pos rfl, hl, List.map_set]
     refine ⟨fun e => ?_, ownsRow_set r2 (by omega) (str s)⟩
     rw [e] at hl
     simp at hl
     omega
   · show (if j = k then _ else d.cac j) ≠ [] ∧ World.ownsRow _ _ _ _ _ (if j = k then _ else d.cac j).length ((if j = k then _ else d.cac j).map str)
     rw [if_neg e]
     exact ⟨(h.rows j u hu).1, ownsRow_same (h.rows j u hu).2 (fun b hb => hne b (hrow j u (by omega) hu b hb))⟩
set_option maxRecDepth 20000 in
theorem spoil_yes {w : World} {S : Nat → Prop} {bd : Nat} {d : DevD} (h : DevAt w S bd d) (k : Nat) (place : Int) (hp : -9223372036854775808 ≤ place ∧ place ≤ 9223372036854775807) (b : UInt8) (ok : d.Ok) (hv : ∀ k, (d.cac k).length ≤ 1000000) (h0 : d.spoilOk k b = true) :
 Calls Tryz.prog 10 #[.pointer (some ⟨bd, 0, none⟩), .int .i64 k, .int .i64 place, .int .u8 b.toNat] w fun e w' => e = .returned (.bool true) ∧ DevAt w' S bd (d.spoiled k (DevD.flip (d.now k) (DevD.spot place) b)) ∧ Only S w w' := by
 have h1 : d.mayE k = 0 ∧ b ≠ 0 := by
  simp only [DevD.spoilOk, Bool.and_eq_true, decide_eq_true_eq] at h0
  exact ⟨h0.1, by simpa using h0.2⟩
 have HM := Lib.hid (dmay_any h k ok.few)
 rw [h1.1] at HM
 have hkm := DevD.mayE_ok h1.1
 have hk : k < d.med.length := by omega
 have HN := Lib.hid (now_any h k hk ok.few)
 have hlen : (d.now k).length = 64 := by
  unfold DevD.now lastOr
  cases hl : (d.cac k).getLast? with
  | none => 
    have := ok.med d.med[k] (List.getElem_mem hk)
    simpa [DevD.medAt, List.getD_eq_getElem?_getD, List.getElem?_eq_getElem hk] using this
  | some x => exact ok.cac k x (List.mem_of_getLast? hl)
 have hnb : ¬ (b.toNat = 0) := fun e => h1.2 (by apply UInt8.toNat_inj.1; simpa using e)
 have hnb2 : ((b.toNat : Int) == 0) = false := by rw [beq_eq_false_iff_ne]; omega
 obtain ⟨s1, s2, s3⟩ := spot_steps hp
 obtain ⟨c, w2, hconv, hb2, hs2, hcell, hfr⟩ := bytes_new w (d.now k)
 obtain ⟨sl, hsl⟩ : ∃ sl, d.now k = sl := ⟨_, rfl⟩
 rw [hsl] at HN hlen hconv hcell hfr ⊢
 rw [hlen] at hconv hfr
 have HOK := Lib.hid ok
 have HV := Lib.hid hv
 have HB2 := Lib.hid hb2
 have HS2 := Lib.hid hs2
 have HCELL := Lib.hid hcell
 have HLEN := Lib.hid hlen
 have HSP := Lib.hid s2
 obtain ⟨sp, hsp⟩ : ∃ sp, DevD.spot place = sp := ⟨_, rfl⟩
 rw [hsp] at s2 s3 ⊢
 obtain ⟨u, hu⟩ : ∃ u, sl[sp]? = some u := ⟨_, List.getElem?_eq_getElem (by omega)⟩
 have cs := hcell sp u hu
 have HU := Lib.hid hu
 have fs := hfr sp (by omega)
 obtain ⟨mb, mcap, cb, g, hin⟩ := h
 have hon3 : Only S w (w2.setCell ⟨w.heap.size, sp, none⟩ (.int .u8 (bits BinOp.xor IntKind.u8 u.toNat b.toNat))) := (Only.of_below hb2).set (.inr (Nat.le_refl _)) _
 have hin3 := hin.same hon3.size (fun i hi => (Below.heap_setCell w2 _ _ i (by have := hin.lt i hi; show i ≠ w.heap.size; omega)).trans (hb2.block i (hin.lt i hi)))
 obtain ⟨c0, c1, c2, c3⟩ := hin3.cells
 have hlk := hin3.map.look (k := k) (t := 88) Tryz.underlying3 Tryz.underlying88 (zero_strs _) (wfz_in (by omega) (by have := ok.few; omega))
 have hflip : ∀ j, (DevD.flip sl sp b)[j]? = if sp = j then some (u ^^^ b) else sl[j]? := by
  intro j
  unfold DevD.flip
  rw [List.getElem?_set, List.getD_eq_getElem?_getD, hu]
  by_cases e : sp = j
  · rw [if_pos e, if_pos e, if_pos (by omega)]; rfl
  · rw [if_neg e, if_neg e]
 have cellw : ∀ j x, (DevD.flip sl sp b)[j]? = some x → (w2.setCell ⟨w.heap.size, sp, none⟩ (.int .u8 (bits BinOp.xor IntKind.u8 u.toNat b.toNat))).cell? ⟨w.heap.size, j, none⟩ = some (.int .u8 x.toNat) := by
  intro j x hx
  rw [hflip] at hx
  by_cases e : sp = j
  · subst e
    rw [if_pos rfl] at hx
    cases hx
    rw [World.cell?_setCell_same _ _ _ cs, xor_u8]
  · rw [if_neg e] at hx
    rw [World.cell?_setCell_other _ _ _ _ (by intro h; injection h with _ h; exact e h)]
    exact hcell j x hx
 have hfl : (DevD.flip sl sp b).length = 64 := by unfold DevD.flip; rw [List.length_set]; exact hlen
 have hback := fun W (e : ∀ j x, (DevD.flip sl sp b)[j]? = some x → W.cell? ⟨w.heap.size, j, none⟩ = some (.int .u8 x.toNat)) =>
  run_convert_bytes_back (P := Tryz.prog) W 79 9 5 ⟨w.heap.size, 0, none⟩ c (DevD.flip sl sp b) Tryz.underlying79 Tryz.underlying5 Tryz.underlying9
   (fun j hj => by
     have := e j _ (List.getElem?_eq_getElem hj)
     rw [Addr.add_mid, Nat.zero_add]; exact this)
 rw [hfl] at hback
 have hb3 := hback _ cellw
 have hb3d := hback (w2.setCell ⟨w.heap.size, sp, none⟩ (.int .u8 (bits BinOp.xor IntKind.u8 u.toNat b.toNat))).drew (fun j x hx => cellw j x hx)
 have HFL := Lib.hid hfl
 clear hback cellw hflip hfl
 have HIN3 := Lib.hid hin3
 have HON3 := Lib.hid hon3
 clear h0 h1 ok hv hkm hin hin3 hon3 hp hb2 hs2 hcell hfr hnb hsp hu
 have HFEW := Lib.hid HOK.out.few
 cases hg : g k with
 | none =>
  have HC0 := Lib.hid (HIN3.out.none_ k hg)
  rw [hg] at hlk
  simp only [Option.getD_none] at hlk
  clear hg
  have hfz := (HIN3.out.med_at hk).2
  have H7 := Lib.hid (HIN3.out.med_set hk (DevD.flip sl sp b))
  go_enter Tryz.func10, Tryz.ntmps10
  go_wp2_with fail
  refine HM.out.mono ?_
  rintro e w1 ⟨rfl, rfl⟩
  go_wp2_with fail
  refine HN.out.mono ?_
  rintro e w1 ⟨rfl, rfl⟩
  repeat' (first
   | go_values
   | go_skip
   | go_guarded
   | ((fail_if_success (with_reducible refine drawn_mark ?_))
      first
       | go_step
       | go_upon
       | go_back
       | (simp only [Int.not_lt, Int.not_le] at *; go_simp)
       | (go_values <;> (try go_simp))
       | (go_ite <;> go_prune <;> (try go_simp))
       | (split <;> (first | (rename_i hx; exact (hx _ rfl).elim) | go_prune))))
  generalize w2.setCell ⟨w.heap.size, sp, none⟩ (.int .u8 (bits BinOp.xor IntKind.u8 u.toNat b.toNat)) = w3 at *
  refine wp_region_still_tail 8 (by kernel_rfl) (by kernel_rfl) ?_
  simp only [List.take_succ_cons, List.take_zero, List.drop_succ_cons, List.drop_zero]
  repeat still_step
  try refine wpStill_nil ?_
  change wpList _ _ _ _ _ w3.drew
  have hfz2 : w3.drew.frozen? ⟨mb, k, none⟩ = false := hfz
  obtain ⟨cm, _⟩ := HIN3.out.med_at hk
  have cm2 : w3.drew.cell? ⟨mb, k, none⟩ = some (str (d.medAt k)) := cm
  clear hfz cm
  go_wp2_with fail
  go_ret
  refine ⟨rfl, ⟨mb, mcap, cb, g, ?_⟩, (HON3.out.set (.inl HIN3.out.sm) _).drew⟩
  have he : d.spoiled k (DevD.flip sl sp b) = { d with med := d.med.set k (DevD.flip sl sp b) } := by
   unfold DevD.spoiled
   rw [HC0.out]; rfl
  rw [he]
  exact H7.out.same (Nat.le_refl _) (fun _ _ => rfl)
 | some v =>
  obtain ⟨hcac, hvr⟩ := HIN3.out.rows k v hg
  rw [hg] at hlk
  simp only [Option.getD_some] at hlk
  have hpos : 0 < (d.cac k).length := List.length_pos_iff.2 hcac
  obtain ⟨cv, cap3, rfl, _, _⟩ := hvr.form (by omega)
  have hvb := HV.out k
  obtain ⟨n, hn⟩ : ∃ n, (d.cac k).length = n + 1 := ⟨(d.cac k).length - 1, by omega⟩
  have H7 := HIN3.out.row_set hg hpos (DevD.flip sl sp b)
  obtain ⟨x, hx⟩ : ∃ x, (d.cac k)[n]? = some x := ⟨_, List.getElem?_eq_getElem (by omega)⟩
  rw [hn] at hlk hvr H7 hvb
  rw [Nat.add_sub_cancel] at H7
  obtain ⟨cl, fl⟩ := ownsRow_cell hvr (j := n) (u := str x) (by rw [List.getElem?_map, hx]; rfl)
  have H7 := Lib.hid H7
  have HCV := Lib.hid ((HIN3.out.apart _ _ hg).2 cv rfl)
  have HCAC := Lib.hid hcac
  have HHN := Lib.hid hn
  have q6 : wrap64 ((n : Int) + 1 - 1) = n := wrapsA (by omega)
  have q7 : IntKind.i64.wrap (n : Int) = n := wrapsB (by omega)
  clear hg hvr hcac hx hpos hn hvb
  go_enter Tryz.func10, Tryz.ntmps10
  go_wp2_with fail
  refine HM.out.mono ?_
  rintro e w1 ⟨rfl, rfl⟩
  go_wp2_with fail
  refine HN.out.mono ?_
  rintro e w1 ⟨rfl, rfl⟩
  go_wp2_with fail
  go_ret
  refine ⟨rfl, ⟨mb, mcap, cb, g, ?_⟩, (HON3.out.set (.inl HCV.out) _)⟩
  have he : d.spoiled k (DevD.flip sl sp b) = { d with cac := fun j => if j = k then (d.cac j).set ((d.cac j).length - 1) (DevD.flip sl sp b) else d.cac j } := by
   unfold DevD.spoiled
   rw [if_neg (by simpa using HCAC.out)]
  rw [he]
  exact H7.out
end Go.Proofs.YtbhkbcpljakmjaaGreat

namespace Go.Proofs.YtbhkbcpljakmjaaGreat
set_option linter.unusedVariables false
set_option linter.unusedSimpArgs false
open Go.RowKit
namespace DevD
theorem spoil_medlen (d : DevD) (a p : Int) (b : UInt8) : (d.spoil a p b).med.length = d.med.length := by
 unfold spoil
 split
 · unfold spoiled
   split
   · simp
   · rfl
 · rfl
theorem spoil_lost' (d : DevD) (a p : Int) (b : UInt8) : (d.spoil a p b).lost = d.lost := by
 unfold spoil
 split
 · unfold spoiled
   split <;> rfl
 · rfl
theorem spoil_fuse' (d : DevD) (a p : Int) (b : UInt8) : (d.spoil a p b).fuse = d.fuse := by
 unfold spoil
 split
 · unfold spoiled
   split <;> rfl
 · rfl
theorem spoil_caclen (d : DevD) (a p : Int) (b : UInt8) (k : Nat) : ((d.spoil a p b).cac k).length = (d.cac k).length := by
 unfold spoil
 split
 · unfold spoiled
   split
   · rfl
   · show (if k = a.toNat then _ else d.cac k).length = _
     split
     · rename_i h
       rw [List.length_set, h]
     · rfl
 · rfl
end DevD
def spoilAt (ds : List DevD) (i : Nat) (a p : Int) (b : UInt8) : List DevD := match ds[i]? with
 | some d => ds.set i (d.spoil a p b)
 | none => ds
theorem spoilAt_ok {N secs : Nat} {ds : List DevD} (h : DsOk N secs ds) (i : Nat) (a p : Int) (b : UInt8) : DsOk N secs (spoilAt ds i a p b) := by
 unfold spoilAt
 split
 · rename_i d hd
   intro e he
   rcases List.mem_or_eq_of_mem_set he with he | rfl
   · exact h e he
   · obtain ⟨h1, h2, h3, h4⟩ := h d (List.mem_of_getElem? hd)
     exact ⟨h1.spoil _ _ _, by rw [DevD.spoil_medlen]; exact h2, by rw [DevD.spoil_fuse']; exact h3, fun k => by rw [DevD.spoil_caclen]; exact h4 k⟩
 · exact h
theorem spoilAt_hereD {aw : List Bool} {ds : List DevD} {i : Nat} {a p : Int} {b : UInt8} (j : Nat) : hereD aw (spoilAt ds i a p b) j = hereD aw ds j := by
 unfold spoilAt
 split
 · rename_i d hd
   unfold hereD
   rw [List.getElem?_set]
   by_cases e : i = j
   · subst e
     rw [if_pos rfl, if_pos (List.getElem?_eq_some_iff.1 hd).1, hd]
     simp only [DevD.spoil_lost']
   · rw [if_neg e]
 · rfl
theorem vspoil_any {w : World} {S : Nat → Nat → Prop} {U : Nat → Prop} {y : VX} {aw : List Bool} {ds : List DevD} (h : VdIn w S U y aw ds) {N : Nat} (ok : DsOk N y.secs ds) (hN : N ≤ 1000000) {i b : Nat} (hb : y.bd[i]? = some b) (a place : Int) (hp : -9223372036854775808 ≤ place ∧ place ≤ 9223372036854775807) (by_ : UInt8) :
 Calls Tryz.prog 10 #[.pointer (some ⟨b, 0, none⟩), .int .i64 a, .int .i64 place, .int .u8 by_.toNat] w fun e w' => (∃ r, e = .returned (.bool r)) ∧ VdIn w' S U y aw (spoilAt ds i a place by_) ∧ Stays U w w' := by
 obtain ⟨d, hd⟩ : ∃ d, ds[i]? = some d := ⟨_, List.getElem?_eq_getElem (by rw [h.n2]; exact (List.getElem?_eq_some_iff.1 hb).1)⟩
 have hdev := h.dev i b d hb hd
 obtain ⟨o1, o2, o3, o4⟩ := ok d (List.mem_of_getElem? hd)
 have hs : spoilAt ds i a place by_ = ds.set i (d.spoil a place by_) := by unfold spoilAt; rw [hd]
 rw [hs]
 cases h0 : d.spoilOk a by_ with
 | false =>
  refine (spoil_no hdev a place by_ o1.few h0).mono ?_
  rintro e w' ⟨rfl, rfl⟩
  have : d.spoil a place by_ = d := by unfold DevD.spoil; rw [h0]; rfl
  rw [this]
  refine ⟨⟨_, rfl⟩, ?_, stays_refl _⟩
  rw [show ds.set i d = ds from by
   apply List.ext_getElem?
   intro j
   rw [List.getElem?_set]
   by_cases e : i = j
   · subst e; rw [if_pos rfl, if_pos (List.getElem?_eq_some_iff.1 hd).1, hd]
   · rw [if_neg e]]
  exact h
 | true =>
  have hm : d.mayE a = 0 := by simp only [DevD.spoilOk, Bool.and_eq_true, decide_eq_true_eq] at h0; exact h0.1
  obtain ⟨k, rfl⟩ := Int.eq_ofNat_of_zero_le (DevD.mayE_ok hm).1
  have hsp : d.spoil k place by_ = d.spoiled k (DevD.flip (d.now k) (DevD.spot place) by_) := by unfold DevD.spoil; rw [h0]; rfl
  refine (spoil_yes hdev k place hp by_ o1 (fun k => Nat.le_trans (o4 k) hN) h0).mono ?_
  rintro e w' ⟨rfl, hd', ho⟩
  rw [← hsp] at hd'
  have hmed : (d.spoil k place by_).med.length = y.secs := by rw [DevD.spoil_medlen]; exact o2
  refine ⟨⟨_, rfl⟩, ?_, Only.mono ho (fun g _ hg hU => h.fx i g hg hU)⟩
  have hst := h.step hb ho (hd'.more ho.size (fun b hb => h.lt i b hb)) hmed
  refine ⟨hst.geo, hst.right, hst.nd, hst.n1, hst.n2, hst.row, hst.box, fun j c e hc he => ?_, hst.sz, fun j c hj => Nat.lt_of_lt_of_le (h.lt j c hj) ho.size, h.fx, h.apart, hst.us, h.ug, h.ul, h.ua, h.ne⟩
  rw [List.getElem?_set] at he
  by_cases e' : i = j
  · subst e'
    rw [if_pos rfl] at he
    split at he
    · cases he
      rw [hb] at hc
      cases hc
      exact hd'
    · cases he
  · rw [if_neg e'] at he
    obtain ⟨mb, mcap, cb, g, hh⟩ := h.dev j c e hc he
    exact ⟨mb, mcap, cb, g, hh.same ho.size (fun b hS => ho.block b (h.lt j b hS) (fun hS2 => e' (h.apart i j b hS2 hS)))⟩
def zs10 : List UInt8 := List.replicate 64 0
def q10 : PtrD := ⟨0, 0, 0, 0, false, 1, 0, 1, (fsum zs10).1, (fsum zs10).2.1, (fsum zs10).2.2.1, (fsum zs10).2.2.2⟩
def ds10 : List DevD := spoilAt (wD [(0, 2)] ((24 : Nat) : Int) 0 0 zs10 [false, false] (List.replicate 2 (DevD.blank 24 0))) 0 16 3 9
theorem ex10 : wE [(0, 2)] ((24 : Nat) : Int) 0 0 zs10 (hereD [false, false] (List.replicate 2 (DevD.blank 24 0))) 2 = 0 ∧ (lookV [(0, 2)] ((24 : Nat) : Int) q10 (rawP [(0, 2)] ((24 : Nat) : Int) q10.size [false, false] ds10)).1.text = zs10 ∧ (lookV [(0, 2)] ((24 : Nat) : Int) q10 (rawP [(0, 2)] ((24 : Nat) : Int) q10.size [false, false] ds10)).1.dev = 1 ∧
 (lookV [(0, 2)] ((24 : Nat) : Int) q10 (rawP [(0, 2)] ((24 : Nat) : Int) q10.size [false, false] ds10)).1.place = 0 ∧ (lookV [(0, 2)] ((24 : Nat) : Int) q10 (rawP [(0, 2)] ((24 : Nat) : Int) q10.size [false, false] ds10)).2 = 0 ∧ readN false [(0, 2)] ((24 : Nat) : Int) [false, false] q10 ds10 = 1 := by decide +kernel
end Go.Proofs.YtbhkbcpljakmjaaGreat
