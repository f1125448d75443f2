/-
  What an act comes to, by the document: Remove.
-/
import Derived.Test.YtckicdbiiepngaaRd7
namespace Go.Proofs.Ytckicdbiiepngaa
set_option linter.unusedVariables false
set_option linter.unusedSimpArgs false
open Go.RowKit Go.Maps Go.Lib Go.Shelf

set_option maxRecDepth 20000 in
set_option maxHeartbeats 8000000 in
theorem rdo_4 {w : World} {cs : Array Value} {a : AllA} (h : RefW w cs a) (hs : Sane a) (x : MAct) (hx : x.Ok) (h3 : x.do_ % 8 = 4) (hid : 0 ≤ x.id ∧ x.id ≤ 31) :
    Calls Try.prog 11 #[.agg cs, .agg #[.int .u8 x.do_, .int .i64 x.id, .int .i64 x.off, .int .i64 x.n, .int .u8 x.fill.toNat]] w fun e w' => RdoP w cs (actA a x) e w' := by
  have hact : actA a x = remA a x.id := by unfold actA; rw [if_neg (by omega), if_pos h3]
  rw [hact]
  clear hact
  obtain ⟨dn, id, off, n, fill⟩ := x
  simp only at h3 hid ⊢
  have hq : (dn : Int).tmod 8 = ((4 : Nat) : Int) := mod_eq 8 h3
  rw [show ((4 : Nat) : Int) = 4 from rfl] at hq
  obtain ⟨hi0, hi31⟩ : ¬ id < 0 ∧ ¬ 31 < id := by omega
  have d0 : decide (id < 0) = false := decide_eq_false hi0
  have d31 : decide (31 < id) = false := decide_eq_false hi31
  clear hid
  have HHE := Lib.hid (hasE_7 (a := a) hi0 hi31)
  have HID : Hid (((id.toNat : Nat) : Int) = id ∧ id.toNat < 32) := Lib.hid (by omega)
  have H := Lib.hid h
  have HX := Lib.hid hx
  obtain ⟨A1, c1, A2, c2, hcs, hr1, hr2, hc1, hc2⟩ := h
  have hcsz : cs.size = 66 := by rw [hcs, wV_size (setL_len _)]
  have hi33 : (Try.prog.info? 33).map (·.size) = some cs.size := by rw [hcsz]; kernel_rfl
  have h1c : cs.all (·.oneCell') = true := by rw [hcs]; exact wV_one (setL_one _)
  obtain ⟨w1, hw1⟩ : ∃ x, x = ((w.alloc (.cells cs 33)).alloc (.cells #[.int .u8 dn, .int .i64 id, .int .i64 off, .int .i64 n, .int .u8 fill.toNat] 37)).alloc (.cells zW 33) := ⟨_, rfl⟩
  have X0 : Blk w1 w.heap.size 33 cs := by rw [hw1]; exact ((Blk.new w _ _).alloc _).alloc _
  have X1 : Blk w1 (w.heap.size + 1) 37 #[.int .u8 dn, .int .i64 id, .int .i64 off, .int .i64 n, .int .u8 fill.toNat] := by rw [hw1]; exact (Blk.new2 w _ _ _).alloc _
  have X2 : Blk w1 (w.heap.size + 2) 33 zW := by
    rw [hw1]
    have := Blk.new2 (w.alloc (.cells cs 33)) (.cells #[.int .u8 dn, .int .i64 id, .int .i64 off, .int .i64 n, .int .u8 fill.toNat] 37) 33 zW
    simpa using this
  have hb1 : Below w.heap.size w w1 := by rw [hw1]; exact keep_alloc (keep_alloc (keep_alloc (Below.refl _ _) _) _) _
  have hs1 : w1.heap.size = w.heap.size + 3 := by rw [hw1]; simp
  obtain ⟨k, hk⟩ : ∃ k, k = a.snaps.length := ⟨_, rfl⟩
  have hk4 : k ≤ 4 := by rw [hk]; exact hs.few
  obtain ⟨l, hl⟩ : ∃ x, x = setL a.live := ⟨_, rfl⟩
  have hl64 : l.length = 64 := by rw [hl, setL_len]
  have hl1 : ∀ u ∈ l, u.oneCell' = true := by rw [hl]; exact setL_one _
  rw [← hl, ← hk] at hcs
  rw [← hk] at hr1 hr2 hc1 hc2
  obtain ⟨cO, hcO⟩ : ∃ x, x = wV l none 0 0 none 0 0 := ⟨_, rfl⟩
  have HBW : Hid (∀ W, (Instr.build 33 #[(0, .agg l.toArray)]).run Try.prog W = .ok (.agg cO) W) := Lib.hid (by rw [hcO, hl]; exact build_w _)
  have hi29 : (Try.prog.info? 29).map (·.size) = some l.length := by rw [hl64]; kernel_rfl
  have HR0 : Hid (w1.rangeAt w.heap.size 0 l) := Lib.hid (fun j v hv => by
    have hj := (List.getElem?_eq_some_iff.1 hv).1
    rw [Nat.zero_add]
    exact X0.at_ (by rw [hcs, wV_lo hl64 (by omega)]; exact hv))
  have hcO66 : cO.size = 66 := by rw [hcO, wV_size hl64]
  have hcO1 : cO.all (·.oneCell') = true := by rw [hcO]; exact wV_one hl1
  obtain ⟨w2, hw2⟩ : ∃ x, x = w1.alloc (.cells zW 33) := ⟨_, rfl⟩
  have hs2 : w2.heap.size = w.heap.size + 4 := by rw [hw2]; simp [hs1]
  have O2 : Blk w2 (w.heap.size + 3) 33 zW := by rw [hw2, ← hs1]; exact Blk.new _ _ _
  obtain ⟨w3, hw3⟩ : ∃ x, x = w2.setCells (w.heap.size + 3) 0 cO.toList := ⟨_, rfl⟩
  have HS3 : Hid ((Instr.storeAt 33 (.pointer (some ⟨w.heap.size + 3, 0, none⟩)) (.agg cO)).run Try.prog w2 = .ok () w3) := Lib.hid (by
    rw [hw3]
    exact run_storeAt_mid w2 _ _ _ cO (O2.there (by rw [zW_size, hcO66]; omega)) (by rw [hcO66]; kernel_rfl) hcO1)
  have O3 : Blk w3 (w.heap.size + 3) 33 (wV l none 0 0 none 0 0) := by rw [hw3, ← hcO]; exact O2.putAll _ (by rw [zW_size, hcO66])
  have hb13 : Below w1.heap.size w1 w3 := by rw [hw3, hw2]; exact below_sets _ _ (keep_alloc (Below.refl _ _) _) (by omega)
  have hs3 : w.heap.size + 4 ≤ w3.heap.size := by have := O3.lt; omega
  have hr1' := hr1.below hb1 (Nat.le_refl _)
  have hr2' := hr2.below hb1 (Nat.le_refl _)
  obtain ⟨A3, c3, w4, w5, A4, c4, w6, w7, B2, e1, s1, e2, s2, O5, O7, row1, row2, hB2, hlo, b35, b37, hs7, hb27⟩ := two_rows (c1 := c1) (c2 := c2) hl64 O3 hs3 hk4 hb13 (by omega) hr1' hr2' (idC_one a) (snC_one a)
  have hb17 : Below w1.heap.size w1 w7 := hb13.trans (b37.mono (by omega))
  have X03 := X0.below hb13 X0.lt
  have X05 := X03.below b35 (by omega)
  have HX07 := Lib.hid (X0.below hb17 X0.lt)
  have HX17 := Lib.hid (X1.below hb17 X1.lt)
  have HX27 := Lib.hid (X2.below hb17 X2.lt)
  have HB7 := Lib.hid (hb1.trans (hb17.mono (by omega)))
  have a0 := X1.at_ (i := 0) rfl
  have a1 := X1.at_ (i := 1) rfl
  have d1 := HX17.out.at_ (i := 1) rfl
  have k3 := O3.at_ (wV_64 hl64)
  have k5 := O5.at_ (wV_65 hl64)
  have m3 := X03.at_ (i := 64) (by rw [hcs]; exact wV_64 hl64)
  have m5 := X05.at_ (i := 65) (by rw [hcs]; exact wV_65 hl64)
  have HFIND := Lib.hid (rfind_any (w := w7) (cs := cs) (A1 := A1) (c1 := c1) (ids := a.ids) (by rw [hcs, ids_len, ← hk]; exact wV_64 hl64) (by rw [← idC_eq, ids_len, ← hk]; exact hr1.below HB7.out (Nat.le_refl _)) (by rw [ids_len, ← hk]; omega) id)
  have HE1 := Lib.hid e1
  have HE2 := Lib.hid e2
  have HS1 := Lib.hid s1
  have HS2 := Lib.hid s2
  have HO7 := Lib.hid O7
  have HROW1 := Lib.hid row1
  have HROW2 := Lib.hid row2
  have HB2 := Lib.hid hB2
  have HLO := Lib.hid hlo
  have HS7 := Lib.hid hs7
  have HB27 := Lib.hid hb27
  have HCS := Lib.hid hcs
  have HK := Lib.hid hk
  have HL := Lib.hid hl
  have HCO := Lib.hid hcO
  have HW1 := Lib.hid hw1.symm
  have HW2 := Lib.hid hw2.symm
  have HX0 := Lib.hid X0
  have HSIZ := Lib.hid hs1
  have HSIZ2 := Lib.hid hs2
  have HSANE := Lib.hid hs
  have HR1 := Lib.hid hr1
  have HR2 := Lib.hid hr2
  try simp only
  clear hw1 hw2 hw3 hx hcs hr1 hr2 hb1 hs1 hs2 hs3 X0 X1 X2 e1 e2 s1 s2 O2 O3 O5 O7 row1 row2 hB2 hlo hs7 hb27 hk hl hcO hb13 hb17 b35 b37 X03 X05 hr1' hr2' hs
  go_enter Try.func11, Try.ntmps11
  go_wp2_with (first
    | ((with_reducible refine wpList_box_want ?q1 33 (.tmp 0) ?q2 cs ?q3 w.heap.size ?q4 ?_); (case q2 => rfl); (case q3 => rfl); (case q4 => rfl); (case q1 => rfl); simp only [Act.put, List.setIfInBounds_toArray, List.set_cons_zero, List.set_cons_succ])
    | ((with_reducible refine wpList_alloc_want ?q1 33 ?q2 zW zW_is (w.heap.size + 2) ?q4 w1 HW1.out ?_); (case q2 => rfl); (case q4 => simp); (case q1 => rfl); simp only [Act.put, List.setIfInBounds_toArray, List.set_cons_zero, List.set_cons_succ])
    | ((with_reducible refine wpList_mid_want ?q1 29 (.tmp 26) ?q2 w.heap.size 0 ?q3 l _ HR0.out Try.underlying29 rfl hi29 ?_); (case q2 => rfl); (case q3 => rfl); (case q1 => rfl); simp only [Act.put, List.setIfInBounds_toArray, List.set_cons_zero, List.set_cons_succ])
    | ((with_reducible refine wpList_build_want ?q1 33 #[(0, .tmp 27)] ?q2 #[(0, .agg l.toArray)] ?q3 (.agg cO) (HBW.out _) ?_); (case q2 => rfl); (case q3 => simp [Act.eval, Act.put]); (case q1 => rfl); simp only [Act.put, List.setIfInBounds_toArray, List.set_cons_zero, List.set_cons_succ])
    | ((with_reducible refine wpList_alloc_want ?q1 33 ?q2 zW zW_is (w.heap.size + 3) ?q4 w2 HW2.out ?_); (case q2 => rfl); (case q4 => exact HSIZ.out); (case q1 => rfl); simp only [Act.put, List.setIfInBounds_toArray, List.set_cons_zero, List.set_cons_succ])
    | ((with_reducible refine wpList_store_run ?q1 33 (.tmp 7) (.tmp 28) ?q2 _ _ ?q3 ?q4 w3 HS3.out ?_); (case q2 => rfl); (case q3 => rfl); (case q4 => rfl); (case q1 => rfl); simp only [Act.put, List.setIfInBounds_toArray, List.set_cons_zero, List.set_cons_succ])
    | ((with_reducible refine wpList_append_want ?qw (.tmp 30) (.tmp 32) _ _ _ ?qo ?qt _ _ ?qs ?qx _ _ HE1.out ?_); (case qo => rfl); (case qt => rfl); (case qs => rfl); (case qx => rfl); (case qw => rfl); simp only [Act.put, List.setIfInBounds_toArray, List.set_cons_zero, List.set_cons_succ])
    | ((with_reducible refine wpList_store_run ?q1 30 (.tmp 34) (.tmp 33) ?q2 _ _ ?q3 ?q4 w5 HS1.out ?_); (case q2 => rfl); (case q3 => rfl); (case q4 => rfl); (case q1 => rfl); simp only [Act.put, List.setIfInBounds_toArray, List.set_cons_zero, List.set_cons_succ])
    | ((with_reducible refine wpList_append_want ?qw (.tmp 36) (.tmp 38) _ _ _ ?qo ?qt _ _ ?qs ?qx _ _ HE2.out ?_); (case qo => rfl); (case qt => rfl); (case qs => rfl); (case qx => rfl); (case qw => rfl); simp only [Act.put, List.setIfInBounds_toArray, List.set_cons_zero, List.set_cons_succ])
    | ((with_reducible refine wpList_store_run ?q1 31 (.tmp 40) (.tmp 39) ?q2 _ _ ?q3 ?q4 w7 HS2.out ?_); (case q2 => rfl); (case q3 => rfl); (case q4 => rfl); (case q1 => rfl); simp only [Act.put, List.setIfInBounds_toArray, List.set_cons_zero, List.set_cons_succ])
    | ((with_reducible refine wpList_load_want ?qw 33 (.tmp 2) ?q2 w.heap.size ?q3 33 cs _ HX07.out Try.underlying33 rfl hi33 ?_); (case q2 => rfl); (case q3 => rfl); (case qw => rfl); simp only [Act.put, List.setIfInBounds_toArray, List.set_cons_zero, List.set_cons_succ]))
  refine HFIND.out.mono ?_
  rintro e w8 ⟨rfl, hb8⟩
  have HX08 := Lib.hid (HX07.out.below hb8 HX07.out.lt)
  have HX18 := Lib.hid (HX17.out.below hb8 HX17.out.lt)
  have HX28 := Lib.hid (HX27.out.below hb8 HX27.out.lt)
  have HO8 := Lib.hid (HO7.out.below hb8 HO7.out.lt)
  have HB8 : Hid (Below w.heap.size w w8) := Lib.hid (keep_below hb8 HB7.out)
  have HROW18 := Lib.hid (ownsRow_same HROW1.out (fun b hb => hb8.block b (HROW1.out.lt b hb).2))
  have HROW28 := Lib.hid (ownsRow_same HROW2.out (fun b hb => hb8.block b (HROW2.out.lt b hb).2))
  have HS8 : Hid (w.heap.size + 4 ≤ w8.heap.size) := Lib.hid (by have := hb8.size; have := HS7.out; omega)
  have HB28 : Hid (B2 ≤ w8.heap.size) := Lib.hid (by have := hb8.size; have := HB27.out; omega)
  have b0 := HX18.out.at_ (i := 0) rfl
  have b1 := HX18.out.at_ (i := 1) rfl
  have b2 := HX18.out.at_ (i := 2) rfl
  have b3 := HX18.out.at_ (i := 3) rfl
  have b4 := HX18.out.at_ (i := 4) rfl
  clear hb8 a0 a1 d1 k3 k5 m3 m5 HE1 HE2 HS1 HS2 HS3 HFIND HX07 HX17 HX27 HO7 HROW1 HROW2 HBW HR0 HW1 HW2 HX0
  have t0 : w8.cell? ⟨w.heap.size, id.toNat, none⟩ = some (.bool (has a.live (.int .i64 id))) := HX08.out.at_ (by rw [HCS.out, wV_lo hl64 (by have := HID.out.2; omega), HL.out, setL_b HID.out.2, HID.out.1])
  cases hh : has a.live (.int .i64 id) with
  | false =>
    rw [hh] at t0
    have HNO : Hid (remA a id = a) := Lib.hid (by unfold remA; rw [if_neg]; rw [HHE.out, hh]; simp)
    clear hh
    have HRES := Lib.hid (HX28.out.putAll cs (by rw [zW_size, hcsz]))
    have hth := HX28.out.there (o := 0) (n := cs.size) (by rw [zW_size, hcsz]; omega)
    have HBR := Lib.hid (below_sets (g := w.heap.size + 2) cs.toList 0 HB8.out (by omega))
    go_wp2_with (first
      | ((with_reducible refine wpList_load_want ?qw 33 (.tmp 2) ?q2 w.heap.size ?q3 33 cs _ HX08.out Try.underlying33 rfl hi33 ?_); (case q2 => rfl); (case q3 => rfl); (case qw => rfl); simp only [Act.put, List.setIfInBounds_toArray, List.set_cons_zero, List.set_cons_succ])
      | ((with_reducible refine wpList_store_mid ?a1 33 (.tmp 4) (.tmp 129) ?a2 (w.heap.size + 2) 0 cs ?a3 ?a4 hth hi33 h1c ?_); (case a1 => rfl); (case a2 => rfl); (case a3 => rfl); (case a4 => rfl); simp only [Act.put, List.setIfInBounds_toArray, List.set_cons_zero, List.set_cons_succ])
      )
    refine bodyPost_ret (v := .tuple #[.agg cs, .int .i64 7]) (results_cell_slot rfl _ _ (w.heap.size + 2) 33 cs (0, 0) _ rfl HRES.out Try.underlying33 rfl hi33 _ rfl) rfl ⟨cs, 7, rfl, ?_, HBR.out⟩
    rw [HNO.out]
    exact ⟨H.out.below HBR.out, .inl rfl⟩
  | true =>
    rw [hh] at t0
    have HYES : Hid (remA a id = ⟨a.live.del (.int .i64 id), a.snaps⟩) := Lib.hid (by
      unfold remA
      rw [if_pos (by rw [HHE.out, hh]; rfl)])
    clear hh
    obtain ⟨w9, hw9⟩ : ∃ x, x = w8.setCell ⟨w.heap.size + 3, id.toNat, none⟩ (.bool false) := ⟨_, rfl⟩
    have st := HO8.out.storeAt (P := Try.prog) (ty := 4) (i := id.toNat) (by rw [wV_size hl64]; have := HID.out.2; omega) (v := .bool false) (by kernel_rfl) rfl rfl
    rw [← hw9] at st
    have O9 : Blk w9 (w.heap.size + 3) 33 (wV (l.set id.toNat (.bool false)) A3 k c3 A4 k c4) := by
      have := HO8.out.put id.toNat (.bool false)
      rw [wV_set hl64 (by have := HID.out.2; omega)] at this
      rw [hw9]
      exact this
    have hl9 : (l.set id.toNat (.bool false)).length = 64 := by rw [List.length_set]; exact hl64
    obtain ⟨w10, hw10⟩ : ∃ x, x = w9.setCell ⟨w.heap.size + 3, 32 + id.toNat, none⟩ (str []) := ⟨_, rfl⟩
    have st2 := O9.storeAt (P := Try.prog) (ty := 9) (i := 32 + id.toNat) (by rw [wV_size hl9]; have := HID.out.2; omega) (v := str []) (by kernel_rfl) rfl rfl
    rw [← hw10] at st2
    have HST := Lib.hid st
    have HST2 : Hid ((Instr.storeAt 9 (.pointer (some ⟨w.heap.size + 3, 32 + id.toNat, none⟩)) (.string ⟨#[]⟩)).run Try.prog w9 = .ok () w10) := Lib.hid st2
    have far : ∀ i, i ≠ w.heap.size + 3 → w10.heap[i]? = w8.heap[i]? := fun i hi => by
      rw [hw10, Below.heap_setCell _ ⟨w.heap.size + 3, 32 + id.toNat, none⟩ _ i hi, hw9, Below.heap_setCell _ ⟨w.heap.size + 3, id.toNat, none⟩ _ i hi]
    have X19 : Blk w9 (w.heap.size + 1) 37 #[.int .u8 dn, .int .i64 id, .int .i64 off, .int .i64 n, .int .u8 fill.toNat] := by rw [hw9]; exact HX18.out.far (by simp) _
    have g1 := X19.at_ (i := 1) rfl
    obtain ⟨co, hco⟩ : ∃ x, x = wV ((l.set id.toNat (.bool false)).set (32 + id.toNat) (str [])) A3 k c3 A4 k c4 := ⟨_, rfl⟩
    have HOW : Hid (Blk w10 (w.heap.size + 3) 33 co) := Lib.hid (by
      have := O9.put (32 + id.toNat) (str [])
      rw [wV_set hl9 (by have := HID.out.2; omega)] at this
      rw [hco, hw10]
      exact this)
    have HZW : Hid (Blk w10 (w.heap.size + 2) 33 zW) := Lib.hid ((far _ (by omega)).trans HX28.out)
    have HBW : Hid (Below w.heap.size w w10) := Lib.hid (by rw [hw10, hw9]; exact (HB8.out.setCell (by simp) _).setCell (by simp) _)
    have HC66 : Hid (co.size = 66) := Lib.hid (by rw [hco]; exact wV_size (by rw [List.length_set]; exact hl9))
    have HC1 : Hid (co.all (·.oneCell') = true) := Lib.hid (by
      rw [hco]
      refine wV_one fun u hu => ?_
      rcases List.mem_or_eq_of_mem_set hu with h' | h'
      · rcases List.mem_or_eq_of_mem_set h' with h'' | h''
        · exact hl1 u h''
        · rw [h'']; rfl
      · rw [h']; rfl)
    have HCE : Hid (co = wV (setL (remA a id).live) A3 k c3 A4 k c4) := Lib.hid (by
      have e := setL_del (D := a.live) HID.out.2
      rw [HID.out.1] at e
      rw [HYES.out, hco]
      simp only
      rw [e, HL.out])
    have HSN : Hid ((remA a id).snaps = a.snaps) := Lib.hid (by rw [HYES.out])
    have HSZ : Hid (∀ vs : List Value, w8.heap.size ≤ (w10.setCells (w.heap.size + 2) 0 vs).heap.size) := Lib.hid (fun vs => by rw [sets_size, hw10, hw9]; simp [World.setCell])
    have HFAR : Hid (∀ i, w.heap.size + 4 ≤ i → i < w8.heap.size → w10.heap[i]? = w8.heap[i]?) := Lib.hid fun i h1 h2 => far i (by omega)
    clear hw9 hw10 st st2 hco O9 X19 far hl9
    have hi33o : (Try.prog.info? 33).map (·.size) = some co.size := by rw [HC66.out]; kernel_rfl
    have HRES := Lib.hid (HZW.out.putAll co (by rw [zW_size, HC66.out]))
    have hth := HZW.out.there (o := 0) (n := co.size) (by rw [zW_size, HC66.out]; omega)
    have HBR := Lib.hid (below_sets (g := w.heap.size + 2) co.toList 0 HBW.out (by omega))
    go_wp2_with (first
      | ((with_reducible refine wpList_store_run ?q1 4 (.tmp 134) (.const (.bool false)) ?q2 _ _ ?q3 ?q4 w9 HST.out ?_); (case q2 => rfl); (case q3 => rfl); (case q4 => rfl); (case q1 => rfl); simp only [Act.put, List.setIfInBounds_toArray, List.set_cons_zero, List.set_cons_succ]) | ((with_reducible refine wpList_store_run ?q1 9 (.tmp 139) (.const (.string ⟨#[]⟩)) ?q2 _ _ ?q3 ?q4 w10 HST2.out ?_); (case q2 => rfl); (case q3 => rfl); (case q4 => rfl); (case q1 => rfl); simp only [Act.put, List.setIfInBounds_toArray, List.set_cons_zero, List.set_cons_succ])
      | ((with_reducible refine wpList_load_want ?qw 33 (.tmp 7) ?q2 (w.heap.size + 3) ?q3 33 co _ HOW.out Try.underlying33 rfl hi33o ?_); (case q2 => rfl); (case q3 => rfl); (case qw => rfl); simp only [Act.put, List.setIfInBounds_toArray, List.set_cons_zero, List.set_cons_succ])
      | ((with_reducible refine wpList_store_mid ?a1 33 (.tmp 4) (.tmp 215) ?a2 (w.heap.size + 2) 0 co ?a3 ?a4 hth hi33o HC1.out ?_); (case a1 => rfl); (case a2 => rfl); (case a3 => rfl); (case a4 => rfl); simp only [Act.put, List.setIfInBounds_toArray, List.set_cons_zero, List.set_cons_succ]))
    refine bodyPost_ret (v := .tuple #[.agg co, .int .i64 0]) (results_cell_slot rfl _ _ (w.heap.size + 2) 33 co (0, 0) _ rfl HRES.out Try.underlying33 rfl hi33o _ rfl) rfl ⟨co, 0, rfl, ?_, HBR.out⟩
    rw [HCE.out]
    refine ref_of_rows (W0 := w8) (n := w.heap.size) (B := w.heap.size + 4) (B2 := B2) ?_ ?_ (Nat.le_refl _) HB2.out ?_ (by rw [HSN.out]; exact HK.out) (HSZ.out _)
    · have : idC (remA a id) = idC a := by unfold idC; rw [HSN.out]
      rw [this]; exact HROW18.out
    · have : snC (remA a id) = snC a := by unfold snC; rw [HSN.out]
      rw [this]; exact HROW28.out
    · intro i h1 h2
      rw [sets_apart _ _ _ _ (by omega)]
      exact HFAR.out i h1 h2
end Go.Proofs.Ytckicdbiiepngaa
