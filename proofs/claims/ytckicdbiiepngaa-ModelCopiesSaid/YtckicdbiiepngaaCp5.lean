/-
  Whether a world has these objects; whether it is what the document says.
-/
import Derived.Test.YtckicdbiiepngaaCp4
import Derived.Test.YtckicdbiiepngaaEffG
namespace Go.Proofs.Ytckicdbiiepngaa
set_option linter.unusedVariables false
set_option linter.unusedSimpArgs false
open Go.RowKit Go.Maps Go.Lib Go.Shelf

theorem rd14_all {s : List UInt8} (h : s.length ≤ 16384) : rd14 s 0 20000 = s := by
  unfold rd14
  split
  · rename_i h0
    have : s.length = 0 := by omega
    rw [List.length_eq_zero_iff.1 this]
  · rw [show ((0 : Int)).toNat = 0 from rfl, List.drop_zero, List.take_of_length_le (by omega)]
theorem txt_no {D : DT} {k : Int} (h : has D (.int .i64 k) = false) : txt D k = [] := by unfold txt; rw [atKey_of_not_has h]
theorem rdR_in {a : AllA} {snap : Int} {D : DT} (ho : objA a snap = some D) {k : Nat} (hk : k < 32) (ht : (txt D k).length ≤ 16384) : rdR a snap k 0 20000 = if has D (.int .i64 k) = false then ([], 7) else (txt D k, 0) := by
  unfold rdR
  rw [if_neg (by omega), ho]
  simp only
  split
  · rfl
  · rw [if_neg (by omega), rd14_all ht]
theorem objA_txt {w : World} {S : Nat → Prop} {b : Nat} {d : ModD} {N : Nat} (h : ModAt w S b d N) {snap : Int} {D : DT} (ho : objA d.now snap = some D) : ∀ k : Int, (txt D k).length ≤ 16384 := by
  unfold objA at ho
  split at ho
  · cases ho; exact h.sane.txt
  · split at ho
    · rename_i i hf
      have hi := ids_get hf
      rw [List.getD_eq_getElem?_getD, List.getElem?_eq_getElem hi] at ho
      cases ho
      exact h.texts _ (List.getElem_mem hi)
    · cases ho
def keysTo (D : DT) (k : Nat) : List Int := ((List.range k).filter fun i => has D (.int .i64 (i : Nat))).map fun (i : Nat) => (i : Int)
theorem keysTo_yes {D : DT} {k : Nat} (h : has D (.int .i64 k) = true) : keysTo D (k + 1) = keysTo D k ++ [(k : Int)] := by
  unfold keysTo; rw [List.range_succ, List.filter_append, List.map_append]; simp [h]
theorem keysTo_no {D : DT} {k : Nat} (h : has D (.int .i64 k) = false) : keysTo D (k + 1) = keysTo D k := by
  unfold keysTo; rw [List.range_succ, List.filter_append, List.map_append]; simp [h]
theorem keysTo_len (D : DT) (k : Nat) : (keysTo D k).length ≤ k := by
  unfold keysTo; rw [List.length_map]; exact Nat.le_trans (List.length_filter_le _ _) (by simp)
theorem keysTo_all (D : DT) : keysTo D 32 = keysI D := rfl

set_option maxRecDepth 20000 in
set_option maxHeartbeats 8000000 in
theorem set_any {w : World} {S : Nat → Prop} {b : Nat} {d : ModD} {N : Nat} (h : ModAt w S b d N) {snap : Int} {D : DT} (hobj : objA d.now snap = some D) (hr : InR D) (hN : N ≤ 1000000) :
    Calls Try.prog 39 #[.pointer (some ⟨b, 0, none⟩), .int .i64 snap, .agg (setL D).toArray] w fun e w' => e = .returned (.bool true) ∧ Below w.heap.size w w' := by
  obtain ⟨i1, p1, p2, p3, p4⟩ := info_parts Try.infoRI
  have HTX := Lib.hid (objA_txt h hobj)
  obtain ⟨lD, hlD⟩ : ∃ x, x = (setL D).toArray := ⟨_, rfl⟩
  have HT0 : Hid (∀ k : Nat, k < 32 → lD[k]? = some (.bool (has D (.int .i64 k))) ∧ lD[32 + k]? = some (str (txt D k))) := Lib.hid (fun k hk => by
    rw [hlD, List.getElem?_toArray, List.getElem?_toArray]; exact ⟨setL_b hk, setL_s hk⟩)
  rw [← hlD]
  obtain ⟨w1, hw1⟩ : ∃ x, x = w.alloc (.cells lD 29) := ⟨_, rfl⟩
  have X1 : Blk w1 w.heap.size 29 lD := by rw [hw1]; exact Blk.new _ _ _
  have hb1 : Below w.heap.size w w1 := by rw [hw1]; exact keep_alloc (Below.refl _ _) _
  have HB1 := Lib.hid hb1
  have HX1 := Lib.hid X1
  have HW1 := Lib.hid hw1.symm
  have HM := Lib.hid h
  have HOBJ := Lib.hid hobj
  have HR := Lib.hid hr
  clear hw1 X1 hb1 h hobj hr hlD
  go_enter Try.func39, Try.ntmps39
  go_wp2_with ((with_reducible refine wpList_boxto_want ?q1 29 (.tmp 2) ?q2 lD ?q3 w.heap.size ?q4 w1 HW1.out ?_); (case q2 => rfl); (case q3 => rfl); (case q4 => rfl); (case q1 => rfl); simp only [Act.put, List.setIfInBounds_toArray, List.set_cons_zero, List.set_cons_succ])
  go_loopw [7, 8, 9, 10] (fun v t _ _ wr => ∃ k : Nat, k ≤ 32 ∧ t = .int .i64 k ∧ Below w1.heap.size w1 wr ∧ wr.ownsRow w1.heap.size 3 1 v (keysTo D k).length (intV (keysTo D k))) (fun _ t _ _ _ => 32 - (intOf t).toNat)
  case atStart => exact ⟨0, Nat.zero_le _, rfl, Below.refl _ _, World.ownsRow_nil _ _ _ _⟩
  case round =>
    obtain ⟨k, hk, rfl, hb, hown⟩ := hrel
    have HB := Lib.hid hb
    have HO := Lib.hid hown
    have HBW : Hid (Below w.heap.size w wr) := Lib.hid (keep_below hb HB1.out)
    by_cases hlt : k < 32
    · have HLT := Lib.hid hlt
      have hrd := mread_x (HM.out.below HBW.out) snap k 0 20000 (by omega) (by omega) (by omega) (by omega)
      rw [rdR_in HOBJ.out hlt (HTX.out k)] at hrd
      have HRD := Lib.hid hrd
      clear hrd hb hown
      go_wp2_with fail
      refine HRD.out.mono ?_
      rintro e w2 ⟨rfl, hb2⟩
      have X2 := HX1.out.below HB.out HX1.out.lt
      have X3 := X2.below hb2 X2.lt
      obtain ⟨g0, g1⟩ := HT0.out k HLT.out
      have t0 := X3.at_ g0
      have t1 := X3.at_ g1
      have HB2 : Hid (Below w1.heap.size w1 w2) := Lib.hid (keep_below hb2 HB.out)
      have HO2 : Hid (w2.ownsRow w1.heap.size _ 1 _ _ _) := Lib.hid (ownsRow_same HO.out (fun y hy => hb2.block y (HO.out.lt y hy).2))
      clear hb2 X2 X3 g0 g1
      cases hh : has D (.int .i64 k) with
      | false =>
        rw [hh] at t0
        rw [txt_no hh] at t1
        rw [if_pos rfl]
        have HKT := Lib.hid (keysTo_no hh)
        clear hh
        go_wp2_with fail
        go_roundw
        case rel => exact ⟨k + 1, HLT.out, by go_num, HB2.out, by rw [HKT.out]; exact HO2.out⟩
        case measure => have := HLT.out; simp [intOf]; omega
      | true =>
        rw [hh] at t0
        rw [if_neg (by decide)]
        have HKT := Lib.hid (keysTo_yes hh)
        clear hh
        obtain ⟨wX, hwX⟩ : ∃ x, x = w2.alloc (.cells #[.int .i64 k] 3) := ⟨_, rfl⟩
        have bX : Below w2.heap.size w2 wX := by rw [hwX]; exact keep_alloc (Below.refl _ _) _
        have zX : wX.heap.size = w2.heap.size + 1 := by rw [hwX]; simp
        have rdX : Reads wX 1 (some ⟨w2.heap.size, 0, none⟩) 1 [.int .i64 k] := ⟨rfl, fun _ => ⟨w2.heap.size, 0, rfl, by omega, fun j u hu => by
          rw [Nat.zero_add, hwX]
          exact (Blk.new w2 3 #[.int .i64 k]).at_ (by simpa using hu)⟩⟩
        have hsz := HB2.out.size
        obtain ⟨va, vc, rfl⟩ := own_slice HO2.out
        have hkl := keysTo_len D k
        obtain ⟨A', c', w3, he, ho2, hg, _⟩ := app_run (P := Try.prog) (ty := 30) (c := 1) Try.underlying30 p1 p2 p3 p4 rfl (by decide) (ownsRow_same HO2.out (fun y hy => bX.block y (HO2.out.lt y hy).2)) (by omega) rdX (fun u hu => by simp at hu; subst hu; rfl) (by omega) (by decide)
        have HB3 : Hid (Below w1.heap.size w1 w3) := Lib.hid ((keep_below bX HB2.out).grown hg (by omega) (fun y hy => (HO2.out.lt y hy).1))
        rw [hwX] at he
        have HE1 := Lib.hid he
        have HO3 : Hid (w3.ownsRow w1.heap.size 3 1 (.slice A' ((keysTo D k).length + 1) c') (keysTo D (k + 1)).length (intV (keysTo D (k + 1)))) := Lib.hid (by
          rw [HKT.out, List.length_append]
          unfold intV
          rw [List.map_append]
          exact ho2)
        clear hwX bX zX rdX he ho2 hg hsz hkl
        go_wp2_with ((with_reducible refine wpList_append_want ?qw (.tmp 54) (.tmp 56) _ _ _ ?qo ?qt _ _ ?qs ?qx _ _ HE1.out ?_); (case qo => rfl); (case qt => rfl); (case qs => rfl); (case qx => rfl); (case qw => rfl); simp only [Act.put, List.setIfInBounds_toArray, List.set_cons_zero, List.set_cons_succ])
        go_roundw
        case rel => exact ⟨k + 1, HLT.out, by go_num, HB3.out, HO3.out⟩
        case measure => have := HLT.out; simp [intOf]; omega
    · obtain rfl : k = 32 := by omega
      rw [keysTo_all] at hown
      obtain ⟨va, vc, rfl⟩ := own_slice hown
      have HML := Lib.hid (mlist_any (HM.out.below HBW.out) snap HOBJ.out HR.out hN)
      have HRD := Lib.hid (own_reads hown)
      clear hb hown
      go_wp2_with fail
      refine HML.out.mono ?_
      rintro e w2 ⟨A, c, rfl, hrd, hb2⟩
      have hkl := keysI_len D
      have HEQ := Lib.hid (requal_any (c1 := c) (c2 := vc) hrd (HRD.out.below hb2 (Nat.le_refl _)) (by omega) (by omega))
      have HB2 : Hid (Below w.heap.size w w2) := Lib.hid (keep_below hb2 HBW.out)
      clear hrd hb2
      go_wp2_with fail
      refine HEQ.out.mono ?_
      intro e w3 ht
      obtain ⟨rfl, hb3⟩ := ht.fix (q := true) (by simp)
      have HB3 := Lib.hid (keep_below hb3 HB2.out)
      clear hb3 ht
      go_wp2_with fail
      go_ret
      exact ⟨rfl, HB3.out⟩
end Go.Proofs.Ytckicdbiiepngaa
