/-
  The document's Same.
-/
import Derived.Test.YtckicdbiiepngaaCp2
import Derived.Test.YtckicdbiiepngaaModReadsW
namespace Go.Proofs.Ytckicdbiiepngaa
set_option linter.unusedVariables false
set_option linter.unusedSimpArgs false
open Go.RowKit Go.Maps Go.Lib Go.Shelf

def snS (a : AllA) : List (Int × List Value) := a.snaps.map fun p => (p.1, setL p.2)
theorem snS_len (a : AllA) : (snS a).length = a.snaps.length := by unfold snS; rw [List.length_map]
theorem idC_at {a : AllA} {i : Nat} {p : Int × DT} (h : a.snaps[i]? = some p) : (idC a)[i]? = some (.int .i64 p.1) := by unfold idC; rw [List.getElem?_map, h]; rfl
theorem snS_at {a : AllA} {i : Nat} {p : Int × DT} (h : a.snaps[i]? = some p) : (snS a)[i]? = some (p.1, setL p.2) := by unfold snS; rw [List.getElem?_map, h]; rfl

theorem wpList_boxto_want {P : Program} {ops : Array Oper} {rest : List Oper} {o : Oper} {a : Act} {w : World} {Q : Exit → Act → World → Prop} (hw : Region.wanted o (yielded ops a.tmps) = true) (ty : TypeId) (x : Operand) (ho : o.op = .box ty x) (cs : Array Value) (hx : (a.eval x).cells = cs) (N : Nat) (hN : w.heap.size = N) (w' : World) (hW : w.alloc (.cells cs ty) = w')
    (h : wpList P ops Q rest (a.put o.dst (.pointer (some ⟨N, 0, none⟩))) w') : wpList P ops Q (o :: rest) a w := by
  subst hW
  exact wpList_box_want hw ty x ho cs hx N hN h

set_option maxRecDepth 20000 in
set_option maxHeartbeats 8000000 in
theorem rsame_any {w : World} {cs1 cs2 : Array Value} {a1 a2 : AllA} (h1 : RefW w cs1 a1) (h2 : RefW w cs2 a2) (few1 : a1.snaps.length ≤ 4) (few2 : a2.snaps.length ≤ 4) :
    Calls Try.prog 20 #[.agg cs1, .agg cs2] w fun e w' => Tells w (setL a1.live = setL a2.live ∧ snS a1 = snS a2) e w' := by
  obtain ⟨A1, c1, B1, e1, hcs1, r1, s1, _⟩ := h1
  obtain ⟨A2, c2, B2, e2, hcs2, r2, s2, _⟩ := h2
  obtain ⟨n1, hn1⟩ : ∃ n, n = a1.snaps.length := ⟨_, rfl⟩
  obtain ⟨n2, hn2⟩ : ∃ n, n = a2.snaps.length := ⟨_, rfl⟩
  rw [← hn1] at r1 s1 hcs1 few1
  rw [← hn2] at r2 s2 hcs2 few2
  obtain ⟨l1, hl1⟩ : ∃ x, x = setL a1.live := ⟨_, rfl⟩
  obtain ⟨l2, hl2⟩ : ∃ x, x = setL a2.live := ⟨_, rfl⟩
  have hneq : ∀ W, (binOp .neq 29 (.agg l1.toArray) (.agg l2.toArray)).run Try.prog W = .ok (.bool (!setEq a1.live a2.live)) W := fun W => by rw [hl1, hl2]; exact neq_set _ _ W
  have HSE := Lib.hid (setEq_iff a1.live a2.live)
  rw [← hl1] at hcs1
  rw [← hl2] at hcs2
  have z1 : l1.length = 64 := by rw [hl1, setL_len]
  have z2 : l2.length = 64 := by rw [hl2, setL_len]
  have hi1 : (Try.prog.info? 29).map (·.size) = some l1.length := by rw [z1]; kernel_rfl
  have hi2 : (Try.prog.info? 29).map (·.size) = some l2.length := by rw [z2]; kernel_rfl
  obtain ⟨w1, hw1⟩ : ∃ x, x = (w.alloc (.cells cs1 33)).alloc (.cells cs2 33) := ⟨_, rfl⟩
  have X1 : Blk w1 w.heap.size 33 cs1 := by rw [hw1]; exact (Blk.new w _ _).alloc _
  have X2 : Blk w1 (w.heap.size + 1) 33 cs2 := by rw [hw1]; exact Blk.new2 w _ _ _
  have hb1 : Below w.heap.size w w1 := by rw [hw1]; exact keep_alloc (keep_alloc (Below.refl _ _) _) _
  have HR1 : Hid (w1.rangeAt w.heap.size 0 l1) := Lib.hid (fun j v hv => by
    have hj := (List.getElem?_eq_some_iff.1 hv).1
    rw [Nat.zero_add]
    exact X1.at_ (by rw [hcs1, wV_lo z1 (by omega)]; exact hv))
  have HR2 : Hid (w1.rangeAt (w.heap.size + 1) 0 l2) := Lib.hid (fun j v hv => by
    have hj := (List.getElem?_eq_some_iff.1 hv).1
    rw [Nat.zero_add]
    exact X2.at_ (by rw [hcs2, wV_lo z2 (by omega)]; exact hv))
  have p1 := X1.at_ (i := 64) (by rw [hcs1]; exact wV_64 z1)
  have p2 := X2.at_ (i := 64) (by rw [hcs2]; exact wV_64 z2)
  have q1 := X1.at_ (i := 65) (by rw [hcs1]; exact wV_65 z1)
  have q2 := X2.at_ (i := 65) (by rw [hcs2]; exact wV_65 z2)
  have HB1 := Lib.hid hb1
  have HA1 := Lib.hid (r1.below hb1 (Nat.le_refl _))
  have HA2 := Lib.hid (r2.below hb1 (Nat.le_refl _))
  have HC1 := Lib.hid (s1.below hb1 (Nat.le_refl _))
  have HC2 := Lib.hid (s2.below hb1 (Nat.le_refl _))
  have HN1 := Lib.hid hn1
  have HN2 := Lib.hid hn2
  have HW1 := Lib.hid hw1.symm
  have HX1 := Lib.hid X1
  have HX2 := Lib.hid X2
  clear hcs1 hcs2 r1 r2 s1 s2 hn1 hn2 hl1 hl2 X1 X2 hb1 hw1
  go_enter Try.func20, Try.ntmps20
  cases hse : setEq a1.live a2.live with
  | false =>
    rw [hse] at hneq
    have HN : Hid (¬ (setL a1.live = setL a2.live ∧ snS a1 = snS a2)) := Lib.hid (fun h => by
      have := HSE.out.2 h.1
      rw [hse] at this; cases this)
    clear hse
    go_wp2_with (first
      | ((with_reducible refine wpList_box_want ?q1 33 (.tmp 0) ?q2 cs1 ?q3 w.heap.size ?q4 ?_); (case q2 => rfl); (case q3 => rfl); (case q4 => rfl); (case q1 => rfl); simp only [Act.put, List.setIfInBounds_toArray, List.set_cons_zero, List.set_cons_succ])
      | ((with_reducible refine wpList_boxto_want ?q1 33 (.tmp 1) ?q2 cs2 ?q3 (w.heap.size + 1) ?q4 w1 HW1.out ?_); (case q2 => rfl); (case q3 => rfl); (case q4 => simp); (case q1 => rfl); simp only [Act.put, List.setIfInBounds_toArray, List.set_cons_zero, List.set_cons_succ])
      | ((with_reducible refine wpList_mid_want ?q1 29 (.tmp 6) ?q2 w.heap.size 0 ?q3 l1 _ HR1.out Try.underlying29 rfl hi1 ?_); (case q2 => rfl); (case q3 => rfl); (case q1 => rfl); simp only [Act.put, List.setIfInBounds_toArray, List.set_cons_zero, List.set_cons_succ])
      | ((with_reducible refine wpList_mid_want ?q1 29 (.tmp 8) ?q2 (w.heap.size + 1) 0 ?q3 l2 _ HR2.out Try.underlying29 rfl hi2 ?_); (case q2 => rfl); (case q3 => rfl); (case q1 => rfl); simp only [Act.put, List.setIfInBounds_toArray, List.set_cons_zero, List.set_cons_succ])
      )
    go_ret
    exact ⟨false, rfl, by simp only [HN.out, Bool.false_eq_true], HB1.out⟩
  | true =>
    rw [hse] at hneq
    have HLV : Hid (setL a1.live = setL a2.live) := Lib.hid (HSE.out.1 hse)
    clear hse
    by_cases hnn : n1 = n2
    · subst hnn
      go_wp2_with (first
        | ((with_reducible refine wpList_box_want ?q1 33 (.tmp 0) ?q2 cs1 ?q3 w.heap.size ?q4 ?_); (case q2 => rfl); (case q3 => rfl); (case q4 => rfl); (case q1 => rfl); simp only [Act.put, List.setIfInBounds_toArray, List.set_cons_zero, List.set_cons_succ])
        | ((with_reducible refine wpList_boxto_want ?q1 33 (.tmp 1) ?q2 cs2 ?q3 (w.heap.size + 1) ?q4 w1 HW1.out ?_); (case q2 => rfl); (case q3 => rfl); (case q4 => simp); (case q1 => rfl); simp only [Act.put, List.setIfInBounds_toArray, List.set_cons_zero, List.set_cons_succ])
        | ((with_reducible refine wpList_mid_want ?q1 29 (.tmp 6) ?q2 w.heap.size 0 ?q3 l1 _ HR1.out Try.underlying29 rfl hi1 ?_); (case q2 => rfl); (case q3 => rfl); (case q1 => rfl); simp only [Act.put, List.setIfInBounds_toArray, List.set_cons_zero, List.set_cons_succ])
        | ((with_reducible refine wpList_mid_want ?q1 29 (.tmp 8) ?q2 (w.heap.size + 1) 0 ?q3 l2 _ HR2.out Try.underlying29 rfl hi2 ?_); (case q2 => rfl); (case q3 => rfl); (case q1 => rfl); simp only [Act.put, List.setIfInBounds_toArray, List.set_cons_zero, List.set_cons_succ])
        )
      go_loopw [5] (fun t wr => ∃ k : Nat, k ≤ n1 ∧ t = .int .i64 k ∧ Below w1.heap.size w1 wr ∧ (snS a1).take k = (snS a2).take k) (fun t _ => n1 - (intOf t).toNat)
      case atStart => exact ⟨0, Nat.zero_le _, rfl, Below.refl _ _, by simp⟩
      case round =>
        obtain ⟨k, hk, rfl, hbr, hal⟩ := hrel
        have HAL := Lib.hid hal
        have p1 := keep_cell hbr p1 HX1.out.lt
        have p2 := keep_cell hbr p2 HX2.out.lt
        have q1 := keep_cell hbr q1 HX1.out.lt
        have q2 := keep_cell hbr q2 HX2.out.lt
        have HX1 := Lib.hid (HX1.out.below hbr HX1.out.lt)
        have HX2 := Lib.hid (HX2.out.below hbr HX2.out.lt)
        have HA1 := Lib.hid (HA1.out.below hbr (Nat.le_refl _))
        have HA2 := Lib.hid (HA2.out.below hbr (Nat.le_refl _))
        have HC1 := Lib.hid (HC1.out.below hbr (Nat.le_refl _))
        have HC2 := Lib.hid (HC2.out.below hbr (Nat.le_refl _))
        have HBR := Lib.hid hbr
        have HB1 := Lib.hid (keep_below hbr HB1.out)
        clear hal hbr
        by_cases hlt : k < n1
        · have hla := HN1.out
          have hlb := HN2.out
          obtain ⟨p, hp⟩ : ∃ p, a1.snaps[k]? = some p := ⟨_, List.getElem?_eq_getElem (by omega)⟩
          obtain ⟨p', hp'⟩ : ∃ p, a2.snaps[k]? = some p := ⟨_, List.getElem?_eq_getElem (by omega)⟩
          obtain ⟨ba, oa, rfl, hba, hca⟩ := HA1.out.2 (by omega)
          obtain ⟨bc, oc, rfl, hbc, hcc⟩ := HA2.out.2 (by omega)
          obtain ⟨bb, ob, rfl, hbb, _⟩ := HC1.out.2 (by omega)
          obtain ⟨bd, od, rfl, hbd, _⟩ := HC2.out.2 (by omega)
          have i1 := hca k _ (idC_at hp)
          have i2 := hcc k _ (idC_at hp')
          have g1 := snC_range HC1.out hp (by omega)
          have g2 := snC_range HC2.out hp' (by omega)
          obtain ⟨m1, hm1⟩ : ∃ x, x = setL p.2 := ⟨_, rfl⟩
          obtain ⟨m2, hm2⟩ : ∃ x, x = setL p'.2 := ⟨_, rfl⟩
          have hneq2 : ∀ W, (binOp .neq 29 (.agg m1.toArray) (.agg m2.toArray)).run Try.prog W = .ok (.bool (!setEq p.2 p'.2)) W := fun W => by rw [hm1, hm2]; exact neq_set _ _ W
          rw [← hm1] at g1
          rw [← hm2] at g2
          have y1 : m1.length = 64 := by rw [hm1, setL_len]
          have y2 : m2.length = 64 := by rw [hm2, setL_len]
          have hj1 : (Try.prog.info? 29).map (·.size) = some m1.length := by rw [y1]; kernel_rfl
          have hj2 : (Try.prog.info? 29).map (·.size) = some m2.length := by rw [y2]; kernel_rfl
          have HSP := Lib.hid (setEq_iff p.2 p'.2)
          have HTK : Hid ((p.1 = p'.1 ∧ setL p.2 = setL p'.2 → (snS a1).take (k + 1) = (snS a2).take (k + 1)) ∧ (snS a1 = snS a2 → p.1 = p'.1 ∧ setL p.2 = setL p'.2)) := Lib.hid ⟨fun e => by
            rw [List.take_add_one, List.take_add_one, HAL.out, snS_at hp, snS_at hp', e.1, e.2], fun e => by
            have := snS_at hp
            rw [e, snS_at hp'] at this
            have := Option.some.inj this
            exact ⟨(congrArg Prod.fst this).symm, (congrArg Prod.snd this).symm⟩⟩
          have hdc : decide (k < n1) = true := decide_eq_true hlt
          have HLT := Lib.hid hlt
          obtain ⟨C, hC, hC0, hCB, hCK, hCd⟩ := cls_below wr
          have f1 : ∀ W, C W → W.cell? ⟨w.heap.size, 64, none⟩ = some (.slice (some ⟨ba, oa, none⟩) n1 c1) := fun W hW => keep_cell (hCB W hW) p1 HX1.out.lt
          have f2 : ∀ W, C W → W.cell? ⟨w.heap.size + 1, 64, none⟩ = some (.slice (some ⟨bc, oc, none⟩) n1 c2) := fun W hW => keep_cell (hCB W hW) p2 HX2.out.lt
          have f3 : ∀ W, C W → W.cell? ⟨w.heap.size, 65, none⟩ = some (.slice (some ⟨bb, ob, none⟩) n1 e1) := fun W hW => keep_cell (hCB W hW) q1 HX1.out.lt
          have f4 : ∀ W, C W → W.cell? ⟨w.heap.size + 1, 65, none⟩ = some (.slice (some ⟨bd, od, none⟩) n1 e2) := fun W hW => keep_cell (hCB W hW) q2 HX2.out.lt
          have f5 : ∀ W, C W → W.cell? ⟨ba, oa + k, none⟩ = some (.int .i64 p.1) := fun W hW => keep_cell (hCB W hW) i1 hba
          have f6 : ∀ W, C W → W.cell? ⟨bc, oc + k, none⟩ = some (.int .i64 p'.1) := fun W hW => keep_cell (hCB W hW) i2 hbc
          have fa : ∀ W, C W → (Instr.loadAt 29 (.pointer (some ⟨bb, ob + k * 64, none⟩))).run Try.prog W = .ok (.agg m1.toArray) W := fun W h => run_loadAt_mid W _ _ _ m1 _ (fun j u hu => keep_cell (hCB W h) (g1 j u hu) hbb) Try.underlying29 rfl hj1
          have fb : ∀ W, C W → (Instr.loadAt 29 (.pointer (some ⟨bd, od + k * 64, none⟩))).run Try.prog W = .ok (.agg m2.toArray) W := fun W h => run_loadAt_mid W _ _ _ m2 _ (fun j u hu => keep_cell (hCB W h) (g2 j u hu) hbd) Try.underlying29 rfl hj2
          have HCB := Lib.hid hCB
          have HC := Lib.hid hC
          clear hp hp' hm1 hm2 i1 i2 g1 g2 hca hcc hba hbb hbc hbd hla hlb hCB hCK hCd hC0 hC
          by_cases hid : p.1 = p'.1
          · have hbe : (p.1 != p'.1) = false := by rw [hid]; simp
            cases hsp : setEq p.2 p'.2 with
            | true =>
              rw [hsp] at hneq2
              have HE : Hid ((snS a1).take (k + 1) = (snS a2).take (k + 1)) := Lib.hid (HTK.out.1 ⟨hid, HSP.out.1 hsp⟩)
              clear hsp hid
              repeat' (first
                | go_values
                | go_skip
                | go_guarded
                | ((fail_if_success (with_reducible refine drawn_mark ?_))
                   first
                     | go_step
                     | go_upon
                     | go_back
                     | (simp only [Int.not_lt, Int.not_le] at *; go_simp)
                     | (go_values <;> (try go_simp))
                     | (go_ite <;> go_prune <;> (try go_simp))
                     | (split <;> (first | (rename_i hx; exact (hx _ rfl).elim) | go_prune))))
              refine wp_region_cls C (by kernel_rfl) (by kernel_rfl) HC.out ?_
              repeat (first
                | go_big_quiet_skip
                | (go_big_quiet_want; refine quiet_loadAt 29 (.tmp 42) (by rfl) (.agg m1.toArray) _ (by rfl) fa ?_; simp only [Act.put, List.setIfInBounds_toArray, List.set_cons_zero, List.set_cons_succ]; go_big_quiet_on)
                | (go_big_quiet_want; refine quiet_loadAt 29 (.tmp 47) (by rfl) (.agg m2.toArray) _ (by rfl) fb ?_; simp only [Act.put, List.setIfInBounds_toArray, List.set_cons_zero, List.set_cons_succ]; go_big_quiet_on)
                | (go_big_quiet_want
                   go_big_quiet_op
                   first
                     | go_big_quiet_on
                     | (apply Exists.intro
                        refine ⟨fun W hW => ?_, ?_⟩
                        · first
                            | exact rfl
                            | exact ⟨rfl, rfl⟩
                            | (have e0 := f1 W hW; have e1 := f2 W hW; have e2 := f3 W hW; have e3 := f4 W hW; have e4 := f5 W hW; have e5 := f6 W hW; simp only [e0, e1, e2, e3, e4, e5, Result.andThen_ok]; done)
                            | (have e0 := f1 W hW; have e1 := f2 W hW; have e2 := f3 W hW; have e3 := f4 W hW; have e4 := f5 W hW; have e5 := f6 W hW; simp only [e0, e1, e2, e3, e4, e5, Result.andThen_ok]; first | exact ⟨trivial, rfl⟩ | exact rfl | exact ⟨rfl, rfl⟩)
                            | (skip)
                        go_big_quiet_on)))
              refine wpQuiet_nil ?_
              intro w2 hw2
              have HB2 := Lib.hid (keep_below (HCB.out w2 hw2) HBR.out)
              clear f1 f2 f3 f4 f5 f6 fa fb hw2
              go_wp2_with fail
              go_roundw
              case rel => exact ⟨k + 1, HLT.out, by go_num, HB2.out, HE.out⟩
              case measure => have := HLT.out; simp [intOf]; omega
            | false =>
              rw [hsp] at hneq2
              have HN : Hid (¬ (setL a1.live = setL a2.live ∧ snS a1 = snS a2)) := Lib.hid (fun h => by
                have := HSP.out.2 (HTK.out.2 h.2).2
                rw [hsp] at this; cases this)
              clear hsp hid
              repeat' (first
                | go_values
                | go_skip
                | go_guarded
                | ((fail_if_success (with_reducible refine drawn_mark ?_))
                   first
                     | go_step
                     | go_upon
                     | go_back
                     | (simp only [Int.not_lt, Int.not_le] at *; go_simp)
                     | (go_values <;> (try go_simp))
                     | (go_ite <;> go_prune <;> (try go_simp))
                     | (split <;> (first | (rename_i hx; exact (hx _ rfl).elim) | go_prune))))
              refine wp_region_cls C (by kernel_rfl) (by kernel_rfl) HC.out ?_
              repeat (first
                | go_big_quiet_skip
                | (go_big_quiet_want; refine quiet_loadAt 29 (.tmp 42) (by rfl) (.agg m1.toArray) _ (by rfl) fa ?_; simp only [Act.put, List.setIfInBounds_toArray, List.set_cons_zero, List.set_cons_succ]; go_big_quiet_on)
                | (go_big_quiet_want; refine quiet_loadAt 29 (.tmp 47) (by rfl) (.agg m2.toArray) _ (by rfl) fb ?_; simp only [Act.put, List.setIfInBounds_toArray, List.set_cons_zero, List.set_cons_succ]; go_big_quiet_on)
                | (go_big_quiet_want
                   go_big_quiet_op
                   first
                     | go_big_quiet_on
                     | (apply Exists.intro
                        refine ⟨fun W hW => ?_, ?_⟩
                        · first
                            | exact rfl
                            | exact ⟨rfl, rfl⟩
                            | (have e0 := f1 W hW; have e1 := f2 W hW; have e2 := f3 W hW; have e3 := f4 W hW; have e4 := f5 W hW; have e5 := f6 W hW; simp only [e0, e1, e2, e3, e4, e5, Result.andThen_ok]; done)
                            | (have e0 := f1 W hW; have e1 := f2 W hW; have e2 := f3 W hW; have e3 := f4 W hW; have e4 := f5 W hW; have e5 := f6 W hW; simp only [e0, e1, e2, e3, e4, e5, Result.andThen_ok]; first | exact ⟨trivial, rfl⟩ | exact rfl | exact ⟨rfl, rfl⟩)
                            | (skip)
                        go_big_quiet_on)))
              refine wpQuiet_nil ?_
              intro w2 hw2
              have HB2 := Lib.hid (keep_below (HCB.out w2 hw2) HB1.out)
              clear f1 f2 f3 f4 f5 f6 fa fb hw2
              go_wp2_with fail
              go_ret
              exact ⟨false, rfl, by simp only [HN.out, Bool.false_eq_true], HB2.out⟩
          · have hbe : (p.1 != p'.1) = true := bne_iff_ne.2 hid
            have HN : Hid (¬ (setL a1.live = setL a2.live ∧ snS a1 = snS a2)) := Lib.hid (fun h => hid (HTK.out.2 h.2).1)
            clear hid
            repeat' (first
              | go_values
              | go_skip
              | go_guarded
              | ((fail_if_success (with_reducible refine drawn_mark ?_))
                 first
                   | go_step
                   | go_upon
                   | go_back
                   | (simp only [Int.not_lt, Int.not_le] at *; go_simp)
                   | (go_values <;> (try go_simp))
                   | (go_ite <;> go_prune <;> (try go_simp))
                   | (split <;> (first | (rename_i hx; exact (hx _ rfl).elim) | go_prune))))
            refine wp_region_cls C (by kernel_rfl) (by kernel_rfl) HC.out ?_
            repeat (first
              | go_big_quiet_skip
              | (go_big_quiet_want; refine quiet_loadAt 29 (.tmp 42) (by rfl) (.agg m1.toArray) _ (by rfl) fa ?_; simp only [Act.put, List.setIfInBounds_toArray, List.set_cons_zero, List.set_cons_succ]; go_big_quiet_on)
              | (go_big_quiet_want; refine quiet_loadAt 29 (.tmp 47) (by rfl) (.agg m2.toArray) _ (by rfl) fb ?_; simp only [Act.put, List.setIfInBounds_toArray, List.set_cons_zero, List.set_cons_succ]; go_big_quiet_on)
              | (go_big_quiet_want
                 go_big_quiet_op
                 first
                   | go_big_quiet_on
                   | (apply Exists.intro
                      refine ⟨fun W hW => ?_, ?_⟩
                      · first
                          | exact rfl
                          | exact ⟨rfl, rfl⟩
                          | (have e0 := f1 W hW; have e1 := f2 W hW; have e2 := f3 W hW; have e3 := f4 W hW; have e4 := f5 W hW; have e5 := f6 W hW; simp only [e0, e1, e2, e3, e4, e5, Result.andThen_ok]; done)
                          | (have e0 := f1 W hW; have e1 := f2 W hW; have e2 := f3 W hW; have e3 := f4 W hW; have e4 := f5 W hW; have e5 := f6 W hW; simp only [e0, e1, e2, e3, e4, e5, Result.andThen_ok]; first | exact ⟨trivial, rfl⟩ | exact rfl | exact ⟨rfl, rfl⟩)
                          | (skip)
                      go_big_quiet_on)))
            refine wpQuiet_nil ?_
            intro w2 hw2
            have HB2 := Lib.hid (keep_below (HCB.out w2 hw2) HB1.out)
            clear f1 f2 f3 f4 f5 f6 fa fb hw2
            go_wp2_with fail
            go_ret
            exact ⟨false, rfl, by simp only [HN.out, Bool.false_eq_true], HB2.out⟩
        · obtain rfl : k = n1 := by omega
          have hdc : decide ((k : Int) < k) = false := decide_eq_false (by omega)
          have HE : Hid (snS a1 = snS a2) := Lib.hid (by
            have h := HAL.out
            rwa [List.take_of_length_le (by rw [snS_len, ← HN1.out]; exact Nat.le_refl _), List.take_of_length_le (by rw [snS_len, ← HN2.out]; exact Nat.le_refl _)] at h)
          go_wp2_with fail
          go_ret
          exact ⟨true, rfl, by simp only [HE.out, HLV.out, and_self], HB1.out⟩
    · have hne : ((n1 : Int) != n2) = true := bne_iff_ne.2 (by omega)
      have hne2 : ((n1 : Int) == n2) = false := beq_eq_false_iff_ne.2 (by omega)
      have HN : Hid (¬ (setL a1.live = setL a2.live ∧ snS a1 = snS a2)) := Lib.hid (fun h => by
        have := congrArg List.length h.2
        rw [snS_len, snS_len, ← HN1.out, ← HN2.out] at this
        exact hnn this)
      clear hnn
      go_wp2_with (first
        | ((with_reducible refine wpList_box_want ?q1 33 (.tmp 0) ?q2 cs1 ?q3 w.heap.size ?q4 ?_); (case q2 => rfl); (case q3 => rfl); (case q4 => rfl); (case q1 => rfl); simp only [Act.put, List.setIfInBounds_toArray, List.set_cons_zero, List.set_cons_succ])
        | ((with_reducible refine wpList_boxto_want ?q1 33 (.tmp 1) ?q2 cs2 ?q3 (w.heap.size + 1) ?q4 w1 HW1.out ?_); (case q2 => rfl); (case q3 => rfl); (case q4 => simp); (case q1 => rfl); simp only [Act.put, List.setIfInBounds_toArray, List.set_cons_zero, List.set_cons_succ])
        | ((with_reducible refine wpList_mid_want ?q1 29 (.tmp 6) ?q2 w.heap.size 0 ?q3 l1 _ HR1.out Try.underlying29 rfl hi1 ?_); (case q2 => rfl); (case q3 => rfl); (case q1 => rfl); simp only [Act.put, List.setIfInBounds_toArray, List.set_cons_zero, List.set_cons_succ])
        | ((with_reducible refine wpList_mid_want ?q1 29 (.tmp 8) ?q2 (w.heap.size + 1) 0 ?q3 l2 _ HR2.out Try.underlying29 rfl hi2 ?_); (case q2 => rfl); (case q3 => rfl); (case q1 => rfl); simp only [Act.put, List.setIfInBounds_toArray, List.set_cons_zero, List.set_cons_succ])
        )
      go_ret
      exact ⟨false, rfl, by simp only [HN.out, Bool.false_eq_true], HB1.out⟩
end Go.Proofs.Ytckicdbiiepngaa
