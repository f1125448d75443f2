/-
  Whether a world is what the document says.
-/
import Derived.Test.YtckicdbiiepngaaCp5
namespace Go.Proofs.Ytckicdbiiepngaa
set_option linter.unusedVariables false
set_option linter.unusedSimpArgs false
open Go.RowKit Go.Maps Go.Lib Go.Shelf

/-- What acts keep. -/
structure Good (a : AllA) : Prop where
  live : InR a.live
  snaps : ∀ p ∈ a.snaps, InR p.2
  nd : a.ids.Nodup
  pos : ∀ x ∈ a.ids, 0 ≤ x
theorem inR_put {D : DT} (hD : IsMap D) (h : InR D) {k : Int} (hk : 0 ≤ k ∧ k < 32) (v : DT) : InR (D.put (.int .i64 k) v) := fun i hi => by
  rw [has_put_key hD] at hi
  split at hi
  · rename_i e; subst e; exact hk
  · exact h i hi
theorem inR_del {D : DT} (h : InR D) (k : Int) : InR (D.del (.int .i64 k)) := fun i hi => by
  rw [has_del_key] at hi
  split at hi
  · cases hi
  · exact h i hi
theorem hasE_0 {D : DT} {id : Int} (h : hasE D id = 0) : 0 ≤ id ∧ id < 32 := by
  unfold hasE at h
  split at h
  · rename_i hm; exact absurd h hm
  · rename_i hm
    refine mayE_ok ?_
    simpa using hm
theorem good_emp : Good emp := ⟨fun k h => by simp [emp, has] at h, fun p h => by simp [emp] at h, by simp [emp, AllA.ids], fun x h => by simp [emp, AllA.ids] at h⟩
theorem good_act {a : AllA} (h : Good a) (hs : Sane a) (x : MAct) : Good (actA a x) := by
  have hids : ∀ (l : DT), InR l → Good ⟨l, a.snaps⟩ := fun l hl => ⟨hl, h.snaps, h.nd, h.pos⟩
  unfold actA
  split
  · unfold truA
    split
    · rename_i hc; exact hids _ (inR_put hs.map h.live (hasE_0 hc.1) _)
    · exact h
  split
  · unfold remA
    split
    · exact hids _ (inR_del h.live _)
    · exact h
  split
  · unfold snaA
    split
    · rename_i hc
      have hids' : (⟨a.live, a.snaps ++ [(x.id, a.live)]⟩ : AllA).ids = a.ids ++ [x.id] := by simp [AllA.ids]
      refine ⟨h.live, fun p hp => ?_, ?_, ?_⟩
      · rcases List.mem_append.1 hp with hp | hp
        · exact h.snaps p hp
        · simp at hp; subst hp; exact h.live
      · rw [hids', List.nodup_append]
        refine ⟨h.nd, by simp, fun y hy z hz => ?_⟩
        simp at hz
        subst hz
        rintro rfl
        obtain ⟨i, hi⟩ := List.getElem?_of_mem hy
        exact fstN_none hc.2.2.1 i hi
      · rw [hids']
        intro y hy
        rcases List.mem_append.1 hy with hy | hy
        · exact h.pos y hy
        · simp at hy; subst hy; exact hc.1
    · exact h
  split
  · unfold desA
    split
    · rename_i k hk
      have hids' : (⟨a.live, a.snaps.eraseIdx k⟩ : AllA).ids = a.ids.eraseIdx k := by
        unfold AllA.ids
        rw [List.eraseIdx_eq_take_drop_succ, List.eraseIdx_eq_take_drop_succ, List.map_append, List.map_take, List.map_drop]
      refine ⟨h.live, fun p hp => h.snaps p ((List.eraseIdx_sublist _ _).mem hp), ?_, ?_⟩
      · rw [hids']; exact h.nd.sublist (List.eraseIdx_sublist _ _)
      · rw [hids']; exact fun y hy => h.pos y ((List.eraseIdx_sublist _ _).mem hy)
    · exact h
  split
  · unfold rolA
    split
    · rename_i k hk
      have hi := ids_get hk
      refine hids _ ?_
      rw [List.getD_eq_getElem?_getD, List.getElem?_eq_getElem hi]
      exact h.snaps _ (List.getElem_mem hi)
    · exact h
  · unfold wriA
    split
    · rename_i hc
      refine hids _ (inR_put hs.map h.live (mayE_ok ?_) _)
      unfold wrE at hc
      split at hc
      · rename_i hm; exact absurd hc hm
      · rename_i hm; simpa using hm
    · exact h
theorem obj_snap {a : AllA} (h : Good a) {i : Nat} {p : Int × DT} (hp : a.snaps[i]? = some p) : objA a p.1 = some p.2 := by
  have hid : a.ids[i]? = some p.1 := by unfold AllA.ids; rw [List.getElem?_map, hp]; rfl
  have hpos := h.pos p.1 (List.mem_of_getElem? hid)
  have hf : fstN a.ids p.1 = some i := fstN_is hid (fun j hj e => by
    have hlt := (List.getElem?_eq_some_iff.1 hid).1
    obtain ⟨hjl, e1⟩ := List.getElem?_eq_some_iff.1 e
    obtain ⟨hil, e2⟩ := List.getElem?_eq_some_iff.1 hid
    exact (List.pairwise_iff_getElem.1 h.nd) j i hjl hil hj (e1.trans e2.symm))
  unfold objA
  rw [if_neg (by omega), hf]
  simp only
  rw [List.getD_eq_getElem?_getD, hp]; rfl

set_option maxRecDepth 20000 in
set_option maxHeartbeats 8000000 in
theorem is_any {w : World} {S : Nat → Prop} {b : Nat} {d : ModD} {N : Nat} {cs : Array Value} (h : ModAt w S b d N) (href : RefW w cs d.now) (hg : Good d.now) (hN : N ≤ 1000000) :
    Calls Try.prog 19 #[.pointer (some ⟨b, 0, none⟩), .agg cs] w fun e w' => e = .returned (.bool true) ∧ Below w.heap.size w w' := by
  obtain ⟨A1, c1, A2, c2, hcs, r1, r2, _⟩ := href
  obtain ⟨n, hn⟩ : ∃ n, n = d.now.snaps.length := ⟨_, rfl⟩
  rw [← hn] at hcs r1 r2
  obtain ⟨lv, hlv⟩ : ∃ x, x = setL d.now.live := ⟨_, rfl⟩
  rw [← hlv] at hcs
  have hl64 : lv.length = 64 := by rw [hlv, setL_len]
  have hi29 : (Try.prog.info? 29).map (·.size) = some lv.length := by rw [hl64]; kernel_rfl
  have few : n ≤ 4 := by rw [hn]; exact h.sane.few
  obtain ⟨w1, hw1⟩ : ∃ x, x = w.alloc (.cells cs 33) := ⟨_, rfl⟩
  have X1 : Blk w1 w.heap.size 33 cs := by rw [hw1]; exact Blk.new _ _ _
  have hb1 : Below w.heap.size w w1 := by rw [hw1]; exact keep_alloc (Below.refl _ _) _
  have HM := Lib.hid (h.below hb1)
  have k64 := X1.at_ (i := 64) (by rw [hcs]; exact wV_64 hl64)
  have k65 := X1.at_ (i := 65) (by rw [hcs]; exact wV_65 hl64)
  have HRG : Hid (w1.rangeAt w.heap.size 0 lv) := Lib.hid (fun j u hu => by
    have hj := (List.getElem?_eq_some_iff.1 hu).1
    rw [Nat.zero_add]
    exact X1.at_ (by rw [hcs, wV_lo hl64 (by omega)]; exact hu))
  have HRD1 : Hid (Reads w1 1 A1 d.now.ids.length (intV d.now.ids)) := Lib.hid (by
    have := r1.below hb1 (Nat.le_refl _)
    rw [idC_eq] at this
    rw [ids_len, ← hn]; exact this)
  have HRD1n : Hid (Reads w1 1 A1 n (idC d.now)) := Lib.hid (r1.below hb1 (Nat.le_refl _))
  have HRD2 := Lib.hid (r2.below hb1 (Nat.le_refl _))
  have HX1 := Lib.hid X1
  have HB1 := Lib.hid hb1
  have HW1 := Lib.hid hw1.symm
  have HN := Lib.hid hn
  have HG := Lib.hid hg
  have HLV := Lib.hid hlv
  have HIN : Hid (n = d.now.ids.length) := Lib.hid (by rw [hn, ids_len])
  clear h hcs r1 r2 hw1 X1 hb1 hn hg hlv
  go_enter Try.func19, Try.ntmps19
  obtain ⟨C, hC, hC0, hCB, hCK, hCd⟩ := cls_below w1
  have f64 : ∀ W, C W → W.cell? ⟨w.heap.size, 64, none⟩ = some (.slice A1 n c1) := fun W hW => keep_cell (hCB W hW) k64 HX1.out.lt
  have fl : ∀ W, C W → (Instr.loadAt 29 (.pointer (some ⟨w.heap.size, 0, none⟩))).run Try.prog W = .ok (.agg lv.toArray) W := fun W h => run_loadAt_mid W _ _ _ lv _ (fun j u hu => keep_cell (hCB W h) (HRG.out j u hu) HX1.out.lt) Try.underlying29 rfl hi29
  have HSET : Hid (∀ W, C W → Calls Try.prog 39 #[.pointer (some ⟨b, 0, none⟩), .int .i64 (-1), .agg lv.toArray] W fun e w' => e = .returned (.bool true) ∧ Below W.heap.size W w') := Lib.hid (fun W hW => by
    rw [HLV.out]
    exact set_any (HM.out.below (hCB W hW)) (by unfold objA; rw [if_pos rfl]) HG.out.live hN)
  have HSN : Hid (∀ W, C W → Calls Try.prog 22 #[.pointer (some ⟨b, 0, none⟩)] W fun e w' => ∃ A c, e = .returned (.slice A d.now.ids.length c) ∧ Reads w' 1 A d.now.ids.length (intV d.now.ids) ∧ Below W.heap.size W w') := Lib.hid (fun W hW => msnaps_any (HM.out.below (hCB W hW)))
  have HCK := Lib.hid hCK
  have HCB := Lib.hid hCB
  have HC := Lib.hid hC
  clear hC hC0 hCB hCK hCd
  go_wp2_with (first
    | ((with_reducible refine wpList_boxto_want ?q1 33 (.tmp 1) ?q2 cs ?q3 w.heap.size ?q4 w1 HW1.out ?_); (case q2 => rfl); (case q3 => rfl); (case q4 => rfl); (case q1 => rfl); simp only [Act.put, List.setIfInBounds_toArray, List.set_cons_zero, List.set_cons_succ])
    | (refine G.wp_region_eff C [3, 5, 7, 10] 12 (by kernel_rfl) (by kernel_rfl) (by kernel_rfl) HC.out ?_))
  refine G.wpLexE_take 3 (by kernel_rfl) (by kernel_rfl) ?_
  simp only [List.take_succ_cons, List.take_zero, List.drop_succ_cons, List.drop_zero]
  repeat (first
    | go_big_quiet_skip
    | (go_big_quiet_want; refine quiet_loadAt 29 (.tmp 7) (by rfl) (.agg lv.toArray) _ (by rfl) fl ?_; simp only [Act.put, List.setIfInBounds_toArray, List.set_cons_zero, List.set_cons_succ]; go_big_quiet_on)
    | (go_big_quiet_want
       go_big_quiet_op
       first
         | go_big_quiet_on
         | (apply Exists.intro
            refine ⟨fun W hW => ?_, ?_⟩
            · first
                | exact rfl
                | exact ⟨rfl, rfl⟩
                | (have e0 := f64 W hW; simp only [e0, Result.andThen_ok]; done)
                | (have e0 := f64 W hW; simp only [e0, Result.andThen_ok]; first | exact ⟨trivial, rfl⟩ | exact rfl | exact ⟨rfl, rfl⟩)
                | (skip)
            go_big_quiet_on)))
  refine wpQuiet_nil ?_
  show G.wpLexE _ _ _ _ _ _ _ _ _
  refine G.wpLexE_eff (by kernel_rfl) rfl ?_
  go_wp2_with fail
  refine (HSET.out _ HC.out).mono ?_
  rintro e w2 ⟨rfl, hb2⟩
  have hS2 : C w2 := HCK.out _ _ HC.out hb2
  clear hb2
  go_wp2_with fail
  refine ⟨rfl, hS2, ?_⟩
  refine G.wpLexE_take 1 (by kernel_rfl) (by kernel_rfl) ?_
  simp only [List.take_succ_cons, List.take_zero, List.drop_succ_cons, List.drop_zero]
  repeat (first
    | go_big_quiet_skip
    | (go_big_quiet_want
       go_big_quiet_op
       first
         | go_big_quiet_on
         | (apply Exists.intro
            refine ⟨fun W hW => ?_, ?_⟩
            · first
                | exact rfl
                | exact ⟨rfl, rfl⟩
                | (have e0 := f64 W hW; simp only [e0, Result.andThen_ok]; done)
                | (have e0 := f64 W hW; simp only [e0, Result.andThen_ok]; first | exact ⟨trivial, rfl⟩ | exact rfl | exact ⟨rfl, rfl⟩)
                | (skip)
            go_big_quiet_on)))
  refine wpQuiet_nil ?_
  show G.wpLexE _ _ _ _ _ _ _ _ _
  refine G.wpLexE_eff (by kernel_rfl) rfl ?_
  go_wp2_with fail
  refine ⟨rfl, hS2, ?_⟩
  refine G.wpLexE_take 1 (by kernel_rfl) (by kernel_rfl) ?_
  simp only [List.take_succ_cons, List.take_zero, List.drop_succ_cons, List.drop_zero]
  repeat (first
    | go_big_quiet_skip
    | (go_big_quiet_want
       go_big_quiet_op
       first
         | go_big_quiet_on
         | (apply Exists.intro
            refine ⟨fun W hW => ?_, ?_⟩
            · first
                | exact rfl
                | exact ⟨rfl, rfl⟩
                | (have e0 := f64 W hW; simp only [e0, Result.andThen_ok]; done)
                | (have e0 := f64 W hW; simp only [e0, Result.andThen_ok]; first | exact ⟨trivial, rfl⟩ | exact rfl | exact ⟨rfl, rfl⟩)
                | (skip)
            go_big_quiet_on)))
  refine wpQuiet_nil ?_
  show G.wpLexE _ _ _ _ _ _ _ _ _
  refine G.wpLexE_effg (by kernel_rfl) (by rfl) ?_
  go_wp2_with fail
  refine (HSN.out _ hS2).mono ?_
  rintro e w3 ⟨A3, c3, rfl, hrd3, hb3⟩
  have hS3 : C w3 := HCK.out _ _ hS2 hb3
  have HEQ : Hid (Calls Try.prog 40 #[.slice A3 d.now.ids.length c3, .slice A1 n c1] w3 fun e w' => e = .returned (.bool true) ∧ Below w3.heap.size w3 w') := Lib.hid (by
    have h2 := HRD1.out.below (HCB.out w3 hS3) (Nat.le_refl _)
    have := requal_any (c1 := c3) (c2 := c1) hrd3 h2 (by rw [← HIN.out]; omega) (by rw [← HIN.out]; omega)
    rw [← HIN.out] at this ⊢
    exact this.mono fun e w' ht => ht.fix (by simp))
  clear hrd3 hb3 hS2
  go_wp2_with fail
  refine ⟨rfl, hS3, ?_⟩
  refine G.wpLexE_take 2 (by kernel_rfl) (by kernel_rfl) ?_
  simp only [List.take_succ_cons, List.take_zero, List.drop_succ_cons, List.drop_zero]
  repeat (first
    | go_big_quiet_skip
    | (go_big_quiet_want
       go_big_quiet_op
       first
         | go_big_quiet_on
         | (apply Exists.intro
            refine ⟨fun W hW => ?_, ?_⟩
            · first
                | exact rfl
                | exact ⟨rfl, rfl⟩
                | (have e0 := f64 W hW; simp only [e0, Result.andThen_ok]; done)
                | (have e0 := f64 W hW; simp only [e0, Result.andThen_ok]; first | exact ⟨trivial, rfl⟩ | exact rfl | exact ⟨rfl, rfl⟩)
                | (skip)
            go_big_quiet_on)))
  refine wpQuiet_nil ?_
  show G.wpLexE _ _ _ _ _ _ _ _ _
  refine G.wpLexE_effg (by kernel_rfl) (by rfl) ?_
  go_wp2_with fail
  refine HEQ.out.mono ?_
  rintro e w4 ⟨rfl, hb4⟩
  have hS4 : C w4 := HCK.out _ _ hS3 hb4
  clear hb4 hS3 HEQ
  go_wp2_with fail
  refine ⟨rfl, hS4, ?_⟩
  refine G.wpLexE_take 1 (by kernel_rfl) (by kernel_rfl) ?_
  simp only [List.take_succ_cons, List.take_zero, List.drop_succ_cons, List.drop_zero]
  repeat (first
    | go_big_quiet_skip
    | (go_big_quiet_want
       go_big_quiet_op
       first
         | go_big_quiet_on
         | (apply Exists.intro
            refine ⟨fun W hW => ?_, ?_⟩
            · first
                | exact rfl
                | exact ⟨rfl, rfl⟩
                | (have e0 := f64 W hW; simp only [e0, Result.andThen_ok]; done)
                | (have e0 := f64 W hW; simp only [e0, Result.andThen_ok]; first | exact ⟨trivial, rfl⟩ | exact rfl | exact ⟨rfl, rfl⟩)
                | (skip)
            go_big_quiet_on)))
  refine wpQuiet_nil ?_
  show wpList _ _ _ _ _ _
  have HB4 := Lib.hid (HCB.out w4 hS4)
  clear f64 fl HSET HSN HCK HCB HC hS4
  go_wp2_with fail
  go_loopw [5] (fun t wr => ∃ k : Nat, k ≤ n ∧ t = .int .i64 k ∧ Below w1.heap.size w1 wr) (fun t _ => n - (intOf t).toNat)
  case atStart => exact ⟨0, Nat.zero_le _, rfl, HB4.out⟩
  case round =>
    obtain ⟨k, hk, rfl, hb⟩ := hrel
    have HB := Lib.hid hb
    have k64 := keep_cell hb k64 HX1.out.lt
    have k65 := keep_cell hb k65 HX1.out.lt
    by_cases hlt : k < n
    · have hnn := HN.out
      obtain ⟨p, hp⟩ : ∃ p, d.now.snaps[k]? = some p := ⟨_, List.getElem?_eq_getElem (by omega)⟩
      obtain ⟨ba, oa, rfl, hba, hca⟩ := (HRD1n.out.below hb (Nat.le_refl _)).2 (by omega)
      have rd2 := HRD2.out.below hb (Nat.le_refl _)
      obtain ⟨bb, ob, rfl, hbb, _⟩ := rd2.2 (by omega)
      have i1 := hca k _ (idC_at hp)
      have g1 := snC_range rd2 hp (by omega)
      obtain ⟨m1, hm1⟩ : ∃ x, x = setL p.2 := ⟨_, rfl⟩
      have y1 : m1.length = 64 := by rw [hm1, setL_len]
      have hj1 : (Try.prog.info? 29).map (·.size) = some m1.length := by rw [y1]; kernel_rfl
      obtain ⟨C, hC, hC0, hCB, hCK, hCd⟩ := cls_below wr
      have HSET2 : Hid (∀ W, C W → Calls Try.prog 39 #[.pointer (some ⟨b, 0, none⟩), .int .i64 p.1, .agg m1.toArray] W fun e w' => e = .returned (.bool true) ∧ Below W.heap.size W w') := Lib.hid (fun W hW => by
        rw [hm1]
        exact set_any ((HM.out.below HB.out).below (hCB W hW)) (obj_snap HG.out hp) (HG.out.snaps _ (List.mem_of_getElem? hp)) hN)
      rw [← hm1] at g1
      have f1 : ∀ W, C W → W.cell? ⟨w.heap.size, 64, none⟩ = some (.slice (some ⟨ba, oa, none⟩) n c1) := fun W hW => keep_cell (hCB W hW) k64 (by have := HX1.out.lt; have := HB.out.size; omega)
      have f3 : ∀ W, C W → W.cell? ⟨w.heap.size, 65, none⟩ = some (.slice (some ⟨bb, ob, none⟩) n c2) := fun W hW => keep_cell (hCB W hW) k65 (by have := HX1.out.lt; have := HB.out.size; omega)
      have f5 : ∀ W, C W → W.cell? ⟨ba, oa + k, none⟩ = some (.int .i64 p.1) := fun W hW => keep_cell (hCB W hW) i1 hba
      have fa : ∀ W, C W → (Instr.loadAt 29 (.pointer (some ⟨bb, ob + k * 64, none⟩))).run Try.prog W = .ok (.agg m1.toArray) W := fun W h => run_loadAt_mid W _ _ _ m1 _ (fun j u hu => keep_cell (hCB W h) (g1 j u hu) hbb) Try.underlying29 rfl hj1
      have hdc : decide (k < n) = true := decide_eq_true hlt
      have HLT := Lib.hid hlt
      have HCB := Lib.hid hCB
      have HC := Lib.hid hC
      clear hnn hp hm1 i1 g1 hca hba hbb rd2 hCB hCd hC0 hC hb
      repeat' (first
        | go_values
        | go_skip
        | go_guarded
        | ((fail_if_success (with_reducible refine drawn_mark ?_))
           first
             | go_step
             | go_upon
             | go_back
             | (simp only [Int.not_lt, Int.not_le] at *; go_simp)
             | (go_values <;> (try go_simp))
             | (go_ite <;> go_prune <;> (try go_simp))
             | (split <;> (first | (rename_i hx; exact (hx _ rfl).elim) | go_prune))))
      refine wp_region_cls C (by kernel_rfl) (by kernel_rfl) HC.out ?_
      repeat (first
        | go_big_quiet_skip
        | (go_big_quiet_want; refine quiet_loadAt 29 (.tmp 35) (by rfl) (.agg m1.toArray) _ (by rfl) fa ?_; simp only [Act.put, List.setIfInBounds_toArray, List.set_cons_zero, List.set_cons_succ]; go_big_quiet_on)
        | (go_big_quiet_want
           go_big_quiet_op
           first
             | go_big_quiet_on
             | (apply Exists.intro
                refine ⟨fun W hW => ?_, ?_⟩
                · first
                    | exact rfl
                    | exact ⟨rfl, rfl⟩
                    | (have e0 := f1 W hW; have e1 := f3 W hW; have e2 := f5 W hW; simp only [e0, e1, e2, Result.andThen_ok]; done)
                    | (have e0 := f1 W hW; have e1 := f3 W hW; have e2 := f5 W hW; simp only [e0, e1, e2, Result.andThen_ok]; first | exact ⟨trivial, rfl⟩ | exact rfl | exact ⟨rfl, rfl⟩)
                    | ((refine (HSET2.out W hW).mono ?_; rintro e w' ⟨rfl, hb⟩; exact ⟨rfl, hCK _ _ hW hb⟩))
                go_big_quiet_on)))
      refine wpQuiet_nil ?_
      intro w5 hw5
      have HB5 := Lib.hid (keep_below (HCB.out w5 hw5) HB.out)
      clear f1 f3 f5 fa hw5 hCK
      go_wp2_with fail
      go_roundw
      case rel => exact ⟨k + 1, HLT.out, by go_num, HB5.out⟩
      case measure => have := HLT.out; simp [intOf]; omega
    · obtain rfl : k = n := by omega
      have hdc : decide ((k : Int) < k) = false := decide_eq_false (by omega)
      have HBW : Hid (Below w.heap.size w wr) := Lib.hid (keep_below hb HB1.out)
      clear hb
      go_wp2_with fail
      go_ret
      exact ⟨rfl, HBW.out⟩
end Go.Proofs.Ytckicdbiiepngaa
