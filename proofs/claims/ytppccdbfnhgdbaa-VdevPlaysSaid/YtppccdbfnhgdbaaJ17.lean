/-
  Contracts of package vdev: Here, Flush.
-/
import Derived.Test.YtppccdbfnhgdbaaJ16
namespace Go.Proofs.Ytppccdbfnhgdbaa
set_option linter.unusedVariables false
set_option linter.unusedSimpArgs false
open Go.RowKit

theorem hereD_at {aw : List Bool} {ds : List DevD} {i : Nat} {a : Bool} {d : DevD} (ha : aw[i]? = some a) (hd : ds[i]? = some d) : hereD aw ds i = (!a && !d.lost) := by
  unfold hereD
  rw [List.getD_eq_getElem?_getD, ha, hd]
  rfl
/-- Who is here, is asked. -/
theorem hereV_any {w : World} {S : Nat → Nat → Prop} {U : Nat → Prop} {x : VX} {aw : List Bool} {ds : List DevD} (h : VdIn w S U x aw ds) {i : Nat} (hi : i < x.bd.length) :
    Calls Try.prog 27 #[x.val, .int .i64 i] w fun e w' => e = .returned (.bool (hereD aw ds i)) ∧ Below w.heap.size w w' := by
  obtain ⟨d, hd⟩ : ∃ d, ds[i]? = some d := ⟨_, List.getElem?_eq_getElem (by rw [h.n2]; exact hi)⟩
  obtain ⟨a, ha⟩ : ∃ a, aw[i]? = some a := ⟨_, List.getElem?_eq_getElem (by rw [h.n1]; exact hi)⟩
  rw [hereD_at ha hd]
  exact here_any h ha hd
def flTo (aw : List Bool) (ds : List DevD) (k : Nat) : List DevD := ds.mapIdx fun i d => if decide (i < k) && hereD aw ds i then d.fl else d
def flD (aw : List Bool) (ds : List DevD) : List DevD := flTo aw ds ds.length
def goneN (aw : List Bool) (ds : List DevD) (k : Nat) : Nat := ((List.range k).filter fun i => !hereD aw ds i).length
section
variable {aw : List Bool} {ds : List DevD}
theorem flTo_at (k i : Nat) : (flTo aw ds k)[i]? = (ds[i]?).map fun d => if decide (i < k) && hereD aw ds i then d.fl else d := by
  unfold flTo
  rw [List.getElem?_mapIdx]
theorem flTo_zero : flTo aw ds 0 = ds := by
  apply List.ext_getElem?
  intro i
  rw [flTo_at]
  cases ds[i]? <;> simp
theorem flTo_len (k : Nat) : (flTo aw ds k).length = ds.length := by simp [flTo]
theorem flTo_no {k : Nat} (h : hereD aw ds k = false) : flTo aw ds (k + 1) = flTo aw ds k := by
  apply List.ext_getElem?
  intro i
  rw [flTo_at, flTo_at]
  by_cases e : i = k
  · subst e; simp [h]
  · rw [show decide (i < k + 1) = decide (i < k) from decide_eq_decide.2 (by omega)]
theorem flTo_yes {k : Nat} {d : DevD} (h : hereD aw ds k = true) (hd : ds[k]? = some d) : flTo aw ds (k + 1) = (flTo aw ds k).set k d.fl := by
  apply List.ext_getElem?
  intro i
  rw [flTo_at, List.getElem?_set, flTo_len, flTo_at]
  by_cases e : k = i
  · subst e
    rw [if_pos rfl, if_pos (List.getElem?_eq_some_iff.1 hd).1, hd]
    simp [h]
  · rw [if_neg e, show decide (i < k + 1) = decide (i < k) from decide_eq_decide.2 (by omega)]
theorem goneN_step (k : Nat) : goneN aw ds (k + 1) = goneN aw ds k + if hereD aw ds k then 0 else 1 := by
  unfold goneN
  rw [List.range_succ, List.filter_append, List.length_append]
  cases h : hereD aw ds k <;> simp [h]
theorem goneN_le (k : Nat) : goneN aw ds k ≤ k := by
  unfold goneN
  exact Nat.le_trans (List.length_filter_le _ _) (by simp)
theorem fl_lost (d : DevD) : d.fl.lost = d.lost := by
  unfold DevD.fl
  split <;> rfl
theorem fl_len (d : DevD) : d.fl.med.length = d.med.length := by
  unfold DevD.fl
  split
  · simp [DevD.settled, DevD.burn]
  · rfl
theorem flTo_lost (k i : Nat) : ((flTo aw ds k)[i]?).map DevD.lost = (ds[i]?).map DevD.lost := by
  rw [flTo_at]
  cases ds[i]? with
  | none => rfl
  | some d =>
    simp only [Option.map_some]
    split
    · rw [fl_lost]
    · rfl
theorem flTo_here (k i : Nat) : hereD aw (flTo aw ds k) i = hereD aw ds i := by
  have := flTo_lost (aw := aw) (ds := ds) k i
  unfold hereD
  cases h1 : (flTo aw ds k)[i]? with
  | none =>
    rw [h1] at this
    cases h2 : ds[i]? with
    | none => rfl
    | some d => rw [h2] at this; cases this
  | some e =>
    rw [h1] at this
    cases h2 : ds[i]? with
    | none => rw [h2] at this; cases this
    | some d => rw [h2] at this; simp at this; simp [this]
end
def flEr (n m : Nat) : Int := if n = m then 6 else 0
theorem wrap_1 {n : Nat} (h : n ≤ 100000) : IntKind.i64.wrap ((n : Int) + 1) = n + 1 := (IntWalk.i64_left _).trans (IntWalk.wrap64_in _ (by omega))
set_option maxRecDepth 20000 in
set_option maxHeartbeats 1000000 in
theorem vflush_any {w : World} {S : Nat → Nat → Prop} {U : Nat → Prop} {y : VX} {aw : List Bool} {ds : List DevD} (h : VdIn w S U y aw ds) {N : Nat} (ok : DsOk N y.secs ds) (few : y.bd.length ≤ 1000) :
    Calls Try.prog 15 #[y.val] w fun e w' => e = .returned (.tuple #[.int .i64 (goneN aw ds y.bd.length), .int .i64 (flEr (goneN aw ds y.bd.length) y.bd.length)]) ∧
      (∃ S', VdIn w' S' U y aw (flD aw ds)) ∧ Stays U w w' := by
  obtain ⟨w1, hw1⟩ : ∃ z, w.alloc (.cells y.cells 31) = z := ⟨_, rfl⟩
  have B1 : Blk w1 w.heap.size 31 y.cells := by rw [← hw1]; exact Blk.new _ _ _
  have D1 : Below w.heap.size w w1 := by rw [← hw1]; exact keep_alloc (Below.refl _ _) _
  have HR := Lib.hid (vright_any (h.below D1) few)
  have HH := Lib.hid h
  have HOK := Lib.hid ok
  have HB1 := Lib.hid B1
  have HD1 := Lib.hid D1
  have HW1 := Lib.hid hw1
  clear h B1 D1 hw1 ok
  go_enter Try.func15, Try.ntmps15
  go_wp2_with fail
  rw [HW1.out]
  clear HW1
  refine HR.out.mono ?_
  rintro e w2 ⟨rfl, hb2⟩
  have HB2 := Lib.hid (HB1.out.below hb2 HB1.out.lt)
  have HD2 := Lib.hid (keep_below hb2 HD1.out)
  have HV2 := Lib.hid (HH.out.more HD2.out)
  have HUB : Hid (more U w w2 w.heap.size) := Lib.hid (.inr ⟨Nat.le_refl _, HB2.out.lt⟩)
  have g0 := HB2.out.at_ (i := 2) (v := .slice (some ⟨y.lb, 0, none⟩) y.bd.length y.lc) rfl
  clear hb2 HB1 HR
  go_wp2_with fail
  clear g0
  go_loopw [4, 5, 12] (fun n _ t wr => ∃ (k : Nat) (S' : Nat → Nat → Prop), k ≤ y.bd.length ∧ t = .int .i64 k ∧ n = .int .i64 (goneN aw ds k) ∧ VdIn wr S' (more U w w2) y aw (flTo aw ds k) ∧ Stays (more U w w2) w2 wr) (fun _ _ t _ => y.bd.length - (RowKit.intOf t).toNat)
  case atStart => exact ⟨0, S, Nat.zero_le _, rfl, rfl, by rw [flTo_zero]; exact HV2.out, stays_refl _⟩
  case round =>
    obtain ⟨k, S', hk, rfl, rfl, hV, hst⟩ := hrel
    have hB : Blk wr w.heap.size 31 y.cells := (hst.heap HUB.out HB2.out.lt).trans HB2.out
    have g0 := hB.at_ (i := 0) (v := .slice (some ⟨y.gb, 0, none⟩) y.m y.cc) rfl
    have g1 := hB.at_ (i := 1) (v := .int .i64 y.secs) rfl
    have g2 := hB.at_ (i := 2) (v := .slice (some ⟨y.lb, 0, none⟩) y.bd.length y.lc) rfl
    have g3 := hB.at_ (i := 3) (v := .slice (some ⟨y.ab, 0, none⟩) y.bd.length y.bd.length) rfl
    by_cases hlt : k < y.bd.length
    · have hdc : decide (k < y.bd.length) = true := decide_eq_true hlt
      have hhere := hereV_any hV hlt
      rw [flTo_here] at hhere
      have hgl := goneN_le (aw := aw) (ds := ds) k
      have hw9 := wrap_1 (n := goneN aw ds k) (by omega)
      have HHE := Lib.hid hhere
      have HV := Lib.hid hV
      have HST := Lib.hid hst
      have HB := Lib.hid hB
      have HLT := Lib.hid hlt
      clear hV hst hB hhere
      cases hh : hereD aw ds k with
      | false =>
        rw [hh] at HHE
        have HT : Hid (flTo aw ds (k + 1) = flTo aw ds k ∧ goneN aw ds (k + 1) = goneN aw ds k + 1) := Lib.hid ⟨flTo_no hh, by rw [goneN_step, hh]; rfl⟩
        clear hh
        go_wp2_with fail
        refine HHE.out.mono ?_
        rintro e w3 ⟨rfl, hb3⟩
        have HV3 := Lib.hid (HV.out.below hb3)
        have HS3 := Lib.hid (HST.out.trans (stays_below hb3))
        clear hb3 g0 g1 g2 g3
        go_wp2_with fail
        go_roundw
        case rel => exact ⟨k + 1, S', HLT.out, by go_num, by rw [HT.out.2]; go_num, by rw [HT.out.1]; exact HV3.out, HS3.out⟩
        case measure => have := HLT.out; simp [RowKit.intOf]; omega
      | true =>
        rw [hh] at HHE
        obtain ⟨d, hd⟩ : ∃ d, ds[k]? = some d := ⟨_, List.getElem?_eq_getElem (by rw [HH.out.n2]; exact hlt)⟩
        obtain ⟨a, ha⟩ : ∃ a, aw[k]? = some a := ⟨_, List.getElem?_eq_getElem (by rw [HH.out.n1]; exact hlt)⟩
        have hlo : d.lost = false := by have := hereD_at ha hd; rw [hh] at this; simp at this; exact this.2
        have hdk : (flTo aw ds k)[k]? = some d := by rw [flTo_at, hd]; simp
        obtain ⟨o1, o2, o3, o4⟩ := HOK.out d (List.mem_of_getElem? hd)
        have hfe : d.flE = 0 := by unfold DevD.flE; rw [hlo, o3]; rfl
        have HT : Hid (flTo aw ds (k + 1) = (flTo aw ds k).set k d.fl ∧ goneN aw ds (k + 1) = goneN aw ds k) := Lib.hid ⟨flTo_yes hh hd, by rw [goneN_step, hh]; rfl⟩
        have HDK := Lib.hid (And.intro hdk (And.intro o1 (And.intro hfe (show d.fl.med.length = y.secs by rw [fl_len]; exact o2))))
        clear hh hd ha hlo hdk o1 o2 o3 o4 hfe
        go_wp2_with fail
        refine HHE.out.mono ?_
        rintro e w3 ⟨rfl, hb3⟩
        have hV3 := HV.out.below hb3
        obtain ⟨_, b, _, hb, _, hdev, hrow, _⟩ := hV3.parts HDK.out.1
        have hfl := flush_any hdev HDK.out.2.1
        rw [HDK.out.2.2.1] at hfl
        have HFL := Lib.hid hfl
        have HV3 := Lib.hid hV3
        have HS3 := Lib.hid (HST.out.trans (stays_below hb3))
        have g4 := (HB.out.below hb3 HB.out.lt).at_ (i := 2) (v := .slice (some ⟨y.lb, 0, none⟩) y.bd.length y.lc) rfl
        have HBB := Lib.hid hb
        clear hb3 g0 g1 g2 g3 hV3 hdev hfl hb
        go_wp2_with fail
        refine HFL.out.mono ?_
        rintro e w4 ⟨rfl, hd4, ho4⟩
        have HV4 := Lib.hid (HV3.out.step HBB.out ho4 (hd4.more ho4.size (fun b hb => HV3.out.lt k b hb)) HDK.out.2.2.2)
        have HS4 := Lib.hid (HS3.out.trans (Only.mono ho4 (fun g hg hS hU => HV3.out.fx k g hS hU) : Stays (more U w w2) w3 w4))
        clear hd4 ho4 hrow g4
        go_wp2_with fail
        go_roundw
        case rel => exact ⟨k + 1, _, HLT.out, by go_num, by rw [HT.out.2], by rw [HT.out.1]; exact HV4.out, HS4.out⟩
        case measure => have := HLT.out; simp [RowKit.intOf]; omega
    · obtain rfl : k = y.bd.length := by omega
      have hdc : decide ((y.bd.length : Int) < y.bd.length) = false := decide_eq_false (by omega)
      have HF : Hid ((∃ S', VdIn wr S' U y aw (flD aw ds)) ∧ Stays U w wr) := Lib.hid ⟨⟨S', by
        have := hV.narrow (U := U) (fun b hb => .inl hb) HH.out.ug HH.out.ul HH.out.ua
        unfold flD
        rw [HH.out.n2]
        exact this⟩, (stays_below HD2.out).trans (hst.mono (fun b hb => .inl hb))⟩
      obtain ⟨gn, hgn⟩ : ∃ gn, goneN aw ds y.bd.length = gn := ⟨_, rfl⟩
      rw [hgn]
      have HGN := Lib.hid hgn
      clear hV hst hB hlt hgn
      by_cases hq : gn = y.bd.length
      · have HQ := Lib.hid hq
        have hq2 : ((gn : Int) == y.bd.length) = true := by rw [beq_iff_eq]; omega
        clear hq
        go_wp2_with fail
        go_ret2
        rw [HGN.out, show flEr gn y.bd.length = 6 from if_pos HQ.out]
        exact ⟨rfl, HF.out⟩
      · have HQ := Lib.hid hq
        have hq2 : ((gn : Int) == y.bd.length) = false := by rw [beq_eq_false_iff_ne]; omega
        clear hq
        go_wp2_with fail
        go_ret2
        rw [HGN.out, show flEr gn y.bd.length = 0 from if_neg HQ.out]
        exact ⟨rfl, HF.out⟩
end Go.Proofs.Ytppccdbfnhgdbaa
