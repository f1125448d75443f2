/-
  The walk of MasterBack.
-/
import Derived.Test.YtidmbibpoldgcaaGreatDoorJ21
import Derived.Test.YtidmbibpoldgcaaGreatDoorJ17
import Derived.Test.YtidmbibpoldgcaaGreatDoorJ13
import Derived.Test.YtidmbibpoldgcaaGreatDoorJ22
namespace Go.Proofs.YtidmbibpoldgcaaGreatDoor
set_option linter.unusedVariables false
set_option linter.unusedSimpArgs false
open Go.RowKit

theorem mB_len (s : StA) (f1 : s.snaps.length ≤ 30) (f2 : s.stale.length ≤ 60) : (mB s).length ≤ 20000 := by
  have h1 := nbS_len s.n s.p
  have h2 := cntS_len [(s.snaps.length : Int)]
  have h3 := snsB_len s.snaps
  have h4 := cntS_len (scanI s.z)
  have h5 := cntS_len [(s.stale.length : Int)]
  have h6 := stB_len s.stale
  have h7 : (scanI s.z).length = 9 := rfl
  unfold mB
  simp only [List.length_append, List.length_cons, List.length_nil] at *
  omega
set_option maxRecDepth 100000 in
set_option maxHeartbeats 4000000 in
theorem masterBack_any (A : Option Addr) (m c : Nat) (gs : List (Int × Int)) (secs : Int) (s : StA) (sv tv : Value) {w : World} (hg : GeoAt w A m gs) (h : StIn w s sv tv) (op : s.p.Ok) (ops : ∀ x ∈ s.snaps, x.p.Ok) :
    Calls Tryz.prog 4 #[.agg #[.slice A m c, .int .i64 secs], .agg (stC s sv tv)] w fun e w' => e = .returned (.bool true) ∧ Below w.heap.size w w' := by
  obtain ⟨A1, c1, rfl⟩ := h.snaps.form
  obtain ⟨A2, c2, rfl⟩ := h.stale.form
  have H := Lib.hid h
  have HG := Lib.hid hg
  have HOP := Lib.hid (And.intro op ops)
  have hi35 : (Tryz.prog.info? 38).map (·.size) = some (stC s (.slice A1 s.snaps.length c1) (.slice A2 s.stale.length c2)).size := by rw [stC_size]; kernel_rfl
  obtain ⟨cA, hcA⟩ : ∃ x, x = stC s (.slice A1 s.snaps.length c1) (.slice A2 s.stale.length c2) := ⟨_, rfl⟩
  rw [← hcA] at hi35 ⊢
  have HCA := Lib.hid hcA
  obtain ⟨w1, hw1⟩ : ∃ x, (w.alloc (.cells #[.slice A m c, .int .i64 secs] 24)).alloc (.cells cA 38) = x := ⟨_, rfl⟩
  have HG1 : Hid (Blk w1 w.heap.size 24 #[.slice A m c, .int .i64 secs]) := Lib.hid (by rw [← hw1]; exact (Blk.new _ _ _).alloc _)
  have HK1 : Hid (Blk w1 (w.heap.size + 1) 38 cA) := Lib.hid (by rw [← hw1]; exact Blk.new2 w _ _ _)
  have HD1 : Hid (Below w.heap.size w w1) := Lib.hid (by rw [← hw1]; exact keep_alloc (keep_alloc (Below.refl _ _) _) _)
  have HW1 := Lib.hid hw1
  clear h hg hcA hw1 op ops
  obtain ⟨M, hM⟩ : ∃ M, M = mRight gs secs s := ⟨_, rfl⟩
  have HM := Lib.hid hM
  clear hM
  go_enter Tryz.func4, Tryz.ntmps4
  go_wp2_with fail
  rw [HW1.out]
  clear HW1
  refine (mawake_any _).mono ?_
  rintro e w2 ⟨rfl, hb2⟩
  have K2 := HK1.out.below hb2 HK1.out.lt
  have HK2 := Lib.hid K2
  have HG2 := Lib.hid (HG1.out.below hb2 HG1.out.lt)
  have HD2 := Lib.hid (keep_below hb2 HD1.out)
  clear hb2
  go_wp2_with ((with_reducible refine wpList_load_want ?qw 38 (.tmp 3) ?q2 (w.heap.size + 1) ?q3 38 cA _ K2 Tryz.underlying38 rfl hi35 ?_); (case q2 => rfl); (case q3 => rfl); (case qw => rfl); simp only [Act.put, List.setIfInBounds_toArray, List.set_cons_zero, List.set_cons_succ])
  have hfew := mfew_any s _ _ w2 (H.out.below HD2.out)
  rw [← HCA.out] at hfew
  have HF := Lib.hid hfew
  clear hfew K2
  refine HF.out.mono ?_
  rintro e w3 ⟨rfl, hb3⟩
  have K3 := HK2.out.below hb3 HK2.out.lt
  have HK3 := Lib.hid K3
  have HG3 := Lib.hid (HG2.out.below hb3 HG2.out.lt)
  have HD3 := Lib.hid (keep_below hb3 HD2.out)
  have g0 : w3.cell? ⟨w.heap.size, 0, none⟩ = some (.slice A m c) := HG3.out.at_ rfl
  clear hb3
  by_cases hf : ¬ (s.snaps.length ≤ 30 ∧ s.stale.length ≤ 60)
  · rw [decide_eq_false hf]
    clear hf K3
    go_wp2_with fail
    refine (mawake_any _).mono ?_
    rintro e wz ⟨rfl, hbz⟩
    have HDZ := Lib.hid (keep_below hbz HD3.out)
    clear hbz
    go_wp2_with fail
    go_ret
    exact ⟨rfl, HDZ.out⟩
  replace hf := Classical.not_not.1 hf
  rw [decide_eq_true hf]
  obtain ⟨f1, f2⟩ := hf
  by_cases hm : 100 < m
  · have dm : decide ((100 : Int) < (m : Int)) = true := decide_eq_true (by omega)
    clear hm K3
    go_wp2_with fail
    refine (mawake_any _).mono ?_
    rintro e wz ⟨rfl, hbz⟩
    have HDZ := Lib.hid (keep_below hbz HD3.out)
    clear hbz
    go_wp2_with fail
    go_ret
    exact ⟨rfl, HDZ.out⟩
  have dm : decide ((100 : Int) < (m : Int)) = false := decide_eq_false (by omega)
  clear hm
  go_wp2_with ((with_reducible refine wpList_load_want ?qw 38 (.tmp 3) ?q2 (w.heap.size + 1) ?q3 38 cA _ K3 Tryz.underlying38 rfl hi35 ?_); (case q2 => rfl); (case q3 => rfl); (case qw => rfl); simp only [Act.put, List.setIfInBounds_toArray, List.set_cons_zero, List.set_cons_succ])
  have hof := mof_any s _ _ w3 (H.out.below HD3.out) f1 f2
  rw [← HCA.out] at hof
  refine hof.mono ?_
  rintro e w4 ⟨so, ti, rfl, hox, hb4⟩
  have HK4 := Lib.hid (HK3.out.below hb4 HK3.out.lt)
  have HG4 := Lib.hid (HG3.out.below hb4 HG3.out.lt)
  have HD4 := Lib.hid (keep_below hb4 HD3.out)
  have HBY := Lib.hid (mbytes_any s so ti w4 hox.st f1 f2 HOP.out.1 HOP.out.2)
  obtain ⟨cO, hcO⟩ : ∃ x, x = stC s so ti := ⟨_, rfl⟩
  rw [← hcO] at HBY ⊢
  clear hof K3 hox hb4 g0 dm hcO
  go_wp2_with fail
  refine HBY.out.mono ?_
  rintro e w5 ⟨rfl, hb5⟩
  have HK5 := Lib.hid (HK4.out.below hb5 HK4.out.lt)
  have HG5 := Lib.hid (HG4.out.below hb5 HG4.out.lt)
  have HD5 := Lib.hid (keep_below hb5 HD4.out)
  clear hb5 HBY
  cases hok : mOk s with
  | false =>
    have e1 : mbS s = [] := by unfold mbS; rw [hok]; rfl
    have e2 : mbE s = 1 := by unfold mbE; rw [hok]; rfl
    have hMf : M = false := by
      rw [HM.out]
      cases hh : mRight gs secs s with
      | false => rfl
      | true => rw [mRight_ok hh] at hok; cases hok
    rw [e1, e2]
    subst hMf
    clear e1 e2 hok
    have hgd : Below w.heap.size w w5 := HD5.out
    obtain ⟨S0, hS0⟩ : ∃ S0 : World → Prop, S0 = fun W => Below w5.heap.size w5 W := ⟨_, rfl⟩
    have fg0 : ∀ W, S0 W → W.cell? ⟨w.heap.size, 0, none⟩ = some (.slice A m c) := fun W hW => by rw [hS0] at hW; exact (HG5.out.below hW HG5.out.lt).at_ rfl
    have fg1 : ∀ W, S0 W → W.cell? ⟨w.heap.size, 1, none⟩ = some (.int .i64 secs) := fun W hW => by rw [hS0] at hW; exact (HG5.out.below hW HG5.out.lt).at_ rfl
    have fS : ∀ W, S0 W → (Instr.loadAt 38 (.pointer (some ⟨w.heap.size + 1, 0, none⟩))).run Tryz.prog W = .ok (.agg cA) W := fun W hW => by rw [hS0] at hW; exact blk_loadAt (HK5.out.below hW HK5.out.lt) Tryz.underlying38 rfl hi35
    have HOF : Hid (∀ W, S0 W → Calls Tryz.prog 8 #[.agg cA] W fun e w' => ∃ sv' tv', e = .returned (.agg (stC s sv' tv')) ∧ StIn w' s sv' tv' ∧ CapOk sv' ∧ Below W.heap.size W w') := Lib.hid fun W hW => by
      rw [hS0] at hW
      rw [HCA.out]
      exact (mof_any s _ _ W (H.out.below (hgd.trans (hW.mono hgd.size))) f1 f2).mono fun e w' ⟨sv', tv', he, ho, hb⟩ => ⟨sv', tv', he, ho.st, own_cap ho.snaps, hb⟩
    have HRT : Hid (∀ W sv' tv', S0 W → StIn W s sv' tv' → CapOk sv' → Calls Tryz.prog 7 #[.agg #[.slice A m c, .int .i64 secs], .agg (stC s sv' tv')] W fun e w' => e = .returned (.bool false) ∧ Below W.heap.size W w') := Lib.hid fun W sv' tv' hW hst hcp => by
      rw [hS0] at hW
      rw [HM.out]
      exact mright_any A m c gs secs s sv' tv' (HG.out.below (hgd.trans (hW.mono hgd.size)) (Nat.le_refl _)) hst (Nat.le_trans f1 (by decide)) (Nat.le_trans f2 (by decide)) hcp
    have hSw : S0 w5.drew := by rw [hS0]; exact (Below.refl _ _).drew
    have HSB : Hid (∀ W, S0 W → Below w5.heap.size w5 W) := Lib.hid fun W hW => by rw [hS0] at hW; exact hW
    have HSK : Hid (∀ W W', S0 W → Below W.heap.size W W' → S0 W') := Lib.hid fun W W' hW hb => by rw [hS0] at hW ⊢; exact keep_below hb hW
    clear hS0 hgd
    repeat' (first
      | go_values
      | go_skip
      | go_guarded
      | ((fail_if_success (with_reducible refine drawn_mark ?_))
         first
           | go_step
           | go_upon
           | go_back
           | (simp only [Int.not_lt, Int.not_le] at *; go_simp)
           | (go_values <;> (try go_simp))
           | (go_ite <;> go_prune <;> (try go_simp))
           | (split <;> (first | (rename_i hx; exact (hx _ rfl).elim) | go_prune))))
    refine G.wp_region_eff S0 [5, 6] 9 (by kernel_rfl) (by kernel_rfl) (by kernel_rfl) hSw ?_
    simp only [List.take_succ_cons, List.take_zero, List.drop_succ_cons, List.drop_zero]
    refine G.wpLexE_take 5 (by kernel_rfl) (by kernel_rfl) ?_
    simp only [List.take_succ_cons, List.take_zero, List.drop_succ_cons, List.drop_zero]
    repeat (first
      | go_big_quiet_skip
      | (go_big_quiet_want; refine quiet_loadRow 38 (.tmp 3) (by rfl) (.agg cA) _ (by rfl) fS ?_; simp only [Act.put, List.setIfInBounds_toArray, List.set_cons_zero, List.set_cons_succ]; go_big_quiet_on)
      | (go_big_quiet_want
         go_big_quiet_op
         first
           | go_big_quiet_on
           | (apply Exists.intro
              refine ⟨fun W hW => ?_, ?_⟩
              · first
                  | exact rfl
                  | exact ⟨rfl, rfl⟩
                  | (have e0 := fg0 W hW; have e1 := fg1 W hW; simp only [e0, e1, Result.andThen_ok]; done)
                  | (have e0 := fg0 W hW; have e1 := fg1 W hW; simp only [e0, e1, Result.andThen_ok]; first | exact ⟨trivial, rfl⟩ | exact rfl | exact ⟨rfl, rfl⟩)
                  | (skip)
              go_big_quiet_on)))
    refine wpQuiet_nil ?_
    show G.wpLexE _ _ _ _ _ _ _ _ _
    refine G.wpLexE_effg (by kernel_rfl) (by rfl) ?_
    go_wp2_with fail
    refine (HOF.out _ hSw).mono ?_
    rintro e wb ⟨so, ti, rfl, hso, hcpo, hbb⟩
    have hSb : S0 wb := HSK.out _ _ hSw hbb
    obtain ⟨cO, hcO⟩ : ∃ x, x = stC s so ti := ⟨_, rfl⟩
    rw [← hcO]
    have hq := HRT.out wb so ti hSb hso hcpo
    rw [← hcO] at hq
    have HQ := Lib.hid hq
    clear hq hso hbb hcO hcpo
    go_wp2_with fail
    refine ⟨rfl, hSb, ?_⟩
    refine G.wpLexE_effg (by kernel_rfl) (by rfl) ?_
    go_wp2_with fail
    refine HQ.out.mono ?_
    rintro e wc ⟨rfl, hbc⟩
    have hSc : S0 wc := HSK.out _ _ hSb hbc
    clear hbc
    go_wp2_with fail
    refine ⟨rfl, hSc, ?_⟩
    refine G.wpLexE_take 2 (by kernel_rfl) (by kernel_rfl) ?_
    simp only [List.take_succ_cons, List.take_zero, List.drop_succ_cons, List.drop_zero]
    repeat (first
      | go_big_quiet_skip
      | (go_big_quiet_want
         go_big_quiet_op
         first
           | go_big_quiet_on
           | (apply Exists.intro
              refine ⟨fun W hW => ?_, ?_⟩
              · first
                  | exact rfl
                  | exact ⟨rfl, rfl⟩
                  | (simp only [Result.andThen_ok]; done)
                  | (simp only [Result.andThen_ok]; first | exact ⟨trivial, rfl⟩ | exact rfl | exact ⟨rfl, rfl⟩)
                  | (skip)
              go_big_quiet_on)))
    refine wpQuiet_nil ?_
    show wpList _ _ _ _ _ _
    go_wp2_with fail
    go_ret
    exact ⟨rfl, HD5.out.trans ((HSB.out _ hSc).mono HD5.out.size)⟩
  | true =>
    have e1 : mbS s = mB s := by unfold mbS; rw [hok]; rfl
    have e2 : mbE s = 0 := by unfold mbE; rw [hok]; rfl
    have hRD : rdS gs secs (mB s ++ [0, 0]) = if M then (s, 0) else (stZ, 3) := by rw [HM.out]; exact rd_back hok HOP.out.1 HOP.out.2 f1 f2
    have hbl := mB_len s f1 f2
    rw [e1, e2]
    clear e1 e2 hok
    generalize mB s = B at *
    have HRD := Lib.hid hRD
    have g0 : w5.cell? ⟨w.heap.size, 0, none⟩ = some (.slice A m c) := HG5.out.at_ rfl
    have g1 : w5.cell? ⟨w.heap.size, 1, none⟩ = some (.int .i64 secs) := HG5.out.at_ rfl
    have k1 : B.length + 2 ≤ 9223372036854775807 := by omega
    have HREAD := Lib.hid (read_any A m c gs secs (B ++ [0, 0]) (HG.out.below HD5.out (Nat.le_refl _)) (by rw [List.length_append]; simp; omega))
    clear hRD hbl
    go_wp2_with fail
    rw [show (ByteArray.mk B.toArray ++ ByteArray.mk #[0, 0]) = ByteArray.mk (B ++ [0, 0]).toArray by rw [ByteArray.mk_append_mk]]
    refine HREAD.out.mono ?_
    rintro e w6 ⟨sx, tx, rfl, hst, hb6⟩
    rw [HRD.out] at hst ⊢
    have HK6 := Lib.hid (HK5.out.below hb6 HK5.out.lt)
    have HG6 := Lib.hid (HG5.out.below hb6 HG5.out.lt)
    have HD6 := Lib.hid (keep_below hb6 HD5.out)
    clear HREAD hb6 g0 g1 k1 HRD
    obtain ⟨R, hR⟩ : ∃ R : StA × Int, R = if M then (s, 0) else (stZ, 3) := ⟨_, rfl⟩
    rw [← hR] at hst ⊢
    obtain ⟨A3, c3, rfl⟩ := hst.snaps.form
    obtain ⟨A4, c4, rfl⟩ := hst.stale.form
    obtain ⟨rs, re⟩ := R
    simp only at hst ⊢
    obtain ⟨cX, hcX⟩ : ∃ x, x = stC rs (.slice A3 rs.snaps.length c3) (.slice A4 rs.stale.length c4) := ⟨_, rfl⟩
    rw [← hcX]
    obtain ⟨X, hX⟩ : ∃ X, X = w6.heap.size := ⟨_, rfl⟩
    obtain ⟨w7, hw7⟩ : ∃ x, (w6.alloc (.cells #[.int .i64 0, .int .i64 0, .int .i64 0, .int .i64 0, .int .i64 0, .bool false, .int .i64 0, .int .i64 0, .int .i64 0, .int .u64 0, .int .u64 0, .int .u64 0, .int .u64 0, .slice none 0 0, .int .i64 0, .int .i64 0, .int .i64 0, .int .i64 0, .int .i64 0, .int .i64 0, .int .i64 0, .int .i64 0, .int .i64 0, .slice none 0 0] 48)).setCells w6.heap.size 0 cX.toList = x := ⟨_, rfl⟩
    have hth : (w6.alloc (.cells #[.int .i64 0, .int .i64 0, .int .i64 0, .int .i64 0, .int .i64 0, .bool false, .int .i64 0, .int .i64 0, .int .i64 0, .int .u64 0, .int .u64 0, .int .u64 0, .int .u64 0, .slice none 0 0, .int .i64 0, .int .i64 0, .int .i64 0, .int .i64 0, .int .i64 0, .int .i64 0, .int .i64 0, .int .i64 0, .int .i64 0, .slice none 0 0] 48)).there w6.heap.size 0 cX.size := (Blk.new w6 _ _).there (by rw [hcX, stC_size]; exact Nat.le_refl 24)
    have hi48 : (Tryz.prog.info? 48).map (·.size) = some cX.size := by rw [hcX, stC_size]; kernel_rfl
    have h1x : cX.all (·.oneCell') = true := by rw [hcX]; exact stC_one rs A3 A4 _ _ _ _
    have b67 : Below w6.heap.size w6 w7 := by rw [← hw7]; exact below_sets _ _ (keep_alloc (Below.refl _ _) _) (Nat.le_refl _)
    have HX7 : Hid (Blk w7 X 48 cX) := Lib.hid (by rw [hX, ← hw7]; exact (Blk.new w6 _ _).putAll cX (by rw [hcX]; rfl))
    have HK7 := Lib.hid (HK6.out.below b67 HK6.out.lt)
    have HG7 := Lib.hid (HG6.out.below b67 HG6.out.lt)
    have HD7 := Lib.hid (keep_below b67 HD6.out)
    have HST7 := Lib.hid (hst.below b67)
    have HW7 := Lib.hid (And.intro hw7 hX)
    have HCX := Lib.hid hcX
    have HRR := Lib.hid hR
    clear hw7 hX b67 hst hcX hR HK6 HG6 HD6
    repeat' (first
      | (((with_reducible refine wpList_store_mid ?a1 48 (.tmp 7) (.tmp 45) ?a2 w6.heap.size 0 cX ?a3 ?a4 hth hi48 h1x ?_); (case a1 => rfl); (case a2 => rfl); (case a3 => rfl); (case a4 => rfl); simp only [Act.put, List.setIfInBounds_toArray, List.set_cons_zero, List.set_cons_succ]; rw [HW7.out.1]))
      | go_values
      | go_skip
      | go_guarded
      | ((fail_if_success (with_reducible refine drawn_mark ?_))
         first
           | go_step
           | go_upon
           | go_back
           | (simp only [Int.not_lt, Int.not_le] at *; go_simp)
           | (go_values <;> (try go_simp))
           | (go_ite <;> go_prune <;> (try go_simp))
           | (split <;> (first | (rename_i hx; exact (hx _ rfl).elim) | go_prune))))
    rw [← HW7.out.2]
    clear HW7 hth h1x
    have hgd : Below w.heap.size w w7 := HD7.out
    obtain ⟨S0, hS0⟩ : ∃ S0 : World → Prop, S0 = fun W => Below w7.heap.size w7 W := ⟨_, rfl⟩
    have fg0 : ∀ W, S0 W → W.cell? ⟨w.heap.size, 0, none⟩ = some (.slice A m c) := fun W hW => by rw [hS0] at hW; exact (HG7.out.below hW HG7.out.lt).at_ rfl
    have fg1 : ∀ W, S0 W → W.cell? ⟨w.heap.size, 1, none⟩ = some (.int .i64 secs) := fun W hW => by rw [hS0] at hW; exact (HG7.out.below hW HG7.out.lt).at_ rfl
    have fS : ∀ W, S0 W → (Instr.loadAt 38 (.pointer (some ⟨w.heap.size + 1, 0, none⟩))).run Tryz.prog W = .ok (.agg cA) W := fun W hW => by rw [hS0] at hW; exact blk_loadAt (HK7.out.below hW HK7.out.lt) Tryz.underlying38 rfl hi35
    have HOF : Hid (∀ W, S0 W → Calls Tryz.prog 8 #[.agg cA] W fun e w' => ∃ sv' tv', e = .returned (.agg (stC s sv' tv')) ∧ StIn w' s sv' tv' ∧ CapOk sv' ∧ Below W.heap.size W w') := Lib.hid fun W hW => by
      rw [hS0] at hW
      rw [HCA.out]
      exact (mof_any s _ _ W (H.out.below (hgd.trans (hW.mono hgd.size))) f1 f2).mono fun e w' ⟨sv', tv', he, ho, hb⟩ => ⟨sv', tv', he, ho.st, own_cap ho.snaps, hb⟩
    have HRT : Hid (∀ W sv' tv', S0 W → StIn W s sv' tv' → CapOk sv' → Calls Tryz.prog 7 #[.agg #[.slice A m c, .int .i64 secs], .agg (stC s sv' tv')] W fun e w' => e = .returned (.bool M) ∧ Below W.heap.size W w') := Lib.hid fun W sv' tv' hW hst hcp => by
      rw [hS0] at hW
      rw [HM.out]
      exact mright_any A m c gs secs s sv' tv' (HG.out.below (hgd.trans (hW.mono hgd.size)) (Nat.le_refl _)) hst (Nat.le_trans f1 (by decide)) (Nat.le_trans f2 (by decide)) hcp
    have hSw : S0 w7.drew := by rw [hS0]; exact (Below.refl _ _).drew
    have HSB : Hid (∀ W, S0 W → Below w7.heap.size w7 W) := Lib.hid fun W hW => by rw [hS0] at hW; exact hW
    have HSK : Hid (∀ W W', S0 W → Below W.heap.size W W' → S0 W') := Lib.hid fun W W' hW hb => by rw [hS0] at hW ⊢; exact keep_below hb hW
    clear hS0 hgd
    refine G.wp_region_eff S0 [2, 3] 4 (by kernel_rfl) (by kernel_rfl) (by kernel_rfl) hSw ?_
    simp only [List.take_succ_cons, List.take_zero, List.drop_succ_cons, List.drop_zero]
    refine G.wpLexE_take 2 (by kernel_rfl) (by kernel_rfl) ?_
    simp only [List.take_succ_cons, List.take_zero, List.drop_succ_cons, List.drop_zero]
    repeat (first
      | go_big_quiet_skip
      | (go_big_quiet_want; refine quiet_loadRow 38 (.tmp 3) (by rfl) (.agg cA) _ (by rfl) fS ?_; simp only [Act.put, List.setIfInBounds_toArray, List.set_cons_zero, List.set_cons_succ]; go_big_quiet_on)
      | (go_big_quiet_want
         go_big_quiet_op
         first
           | go_big_quiet_on
           | (apply Exists.intro
              refine ⟨fun W hW => ?_, ?_⟩
              · first
                  | exact rfl
                  | exact ⟨rfl, rfl⟩
                  | (have e0 := fg0 W hW; have e1 := fg1 W hW; simp only [e0, e1, Result.andThen_ok]; done)
                  | (have e0 := fg0 W hW; have e1 := fg1 W hW; simp only [e0, e1, Result.andThen_ok]; first | exact ⟨trivial, rfl⟩ | exact rfl | exact ⟨rfl, rfl⟩)
                  | (skip)
              go_big_quiet_on)))
    refine wpQuiet_nil ?_
    show G.wpLexE _ _ _ _ _ _ _ _ _
    refine G.wpLexE_eff (by kernel_rfl) rfl ?_
    go_wp2_with fail
    refine (HOF.out _ hSw).mono ?_
    rintro e wb ⟨so, ti, rfl, hso, hcpo, hbb⟩
    have hSb : S0 wb := HSK.out _ _ hSw hbb
    obtain ⟨cO, hcO⟩ : ∃ x, x = stC s so ti := ⟨_, rfl⟩
    rw [← hcO]
    have hq := HRT.out wb so ti hSb hso hcpo
    rw [← hcO] at hq
    have HQ := Lib.hid hq
    clear hq hso hbb hcO hcpo
    go_wp2_with fail
    refine ⟨rfl, hSb, ?_⟩
    refine G.wpLexE_eff (by kernel_rfl) rfl ?_
    go_wp2_with fail
    refine HQ.out.mono ?_
    rintro e wc ⟨rfl, hbc⟩
    have hSc : S0 wc := HSK.out _ _ hSb hbc
    clear hbc
    go_wp2_with fail
    refine ⟨rfl, hSc, ?_⟩
    show wpList _ _ _ _ _ _
    have HXc := Lib.hid (HX7.out.below (HSB.out _ hSc) HX7.out.lt)
    have HKc := Lib.hid (HK7.out.below (HSB.out _ hSc) HK7.out.lt)
    have HGc := Lib.hid (HG7.out.below (HSB.out _ hSc) HG7.out.lt)
    have HDc := Lib.hid (keep_below (HSB.out _ hSc) HD7.out)
    have HSTc := Lib.hid (HST7.out.below (HSB.out _ hSc))
    clear fg0 fg1 fS hSw hSb hSc HOF HRT HSB HSK HQ HX7 HK7 HG7 HD7 HST7
    cases M with
    | false =>
      obtain ⟨h1, h2⟩ := Prod.mk.inj HRR.out
      subst h1 h2
      have e13 : wc.cell? ⟨X, 13, none⟩ = some (.slice A3 0 c3) := by
        have := HXc.out
        rw [HCX.out] at this
        exact this.at_ rfl
      clear HRR
      go_wp2_with fail
      go_ret
      exact ⟨rfl, HDc.out⟩
    | true =>
      obtain ⟨h1, h2⟩ := Prod.mk.inj HRR.out
      have h3 : s = rs := h1.symm
      clear h1
      subst h3 h2
      clear HRR
      have hgd : Below w.heap.size w wc := HDc.out
      obtain ⟨S0, hS0⟩ : ∃ S0 : World → Prop, S0 = fun W => Below wc.heap.size wc W := ⟨_, rfl⟩
      have fg0 : ∀ W, S0 W → W.cell? ⟨w.heap.size, 0, none⟩ = some (.slice A m c) := fun W hW => by rw [hS0] at hW; exact (HGc.out.below hW HGc.out.lt).at_ rfl
      have fg1 : ∀ W, S0 W → W.cell? ⟨w.heap.size, 1, none⟩ = some (.int .i64 secs) := fun W hW => by rw [hS0] at hW; exact (HGc.out.below hW HGc.out.lt).at_ rfl
      have fS : ∀ W, S0 W → (Instr.loadAt 38 (.pointer (some ⟨w.heap.size + 1, 0, none⟩))).run Tryz.prog W = .ok (.agg cA) W := fun W hW => by rw [hS0] at hW; exact blk_loadAt (HKc.out.below hW HKc.out.lt) Tryz.underlying38 rfl hi35
      have HOF : Hid (∀ W, S0 W → Calls Tryz.prog 8 #[.agg cA] W fun e w' => ∃ sv' tv', e = .returned (.agg (stC s sv' tv')) ∧ StIn w' s sv' tv' ∧ CapOk sv' ∧ Below W.heap.size W w') := Lib.hid fun W hW => by
        rw [hS0] at hW
        rw [HCA.out]
        exact (mof_any s _ _ W (H.out.below (hgd.trans (hW.mono hgd.size))) f1 f2).mono fun e w' ⟨sv', tv', he, ho, hb⟩ => ⟨sv', tv', he, ho.st, own_cap ho.snaps, hb⟩
      have HRT : Hid (∀ W sv' tv', S0 W → StIn W s sv' tv' → CapOk sv' → Calls Tryz.prog 7 #[.agg #[.slice A m c, .int .i64 secs], .agg (stC s sv' tv')] W fun e w' => e = .returned (.bool true) ∧ Below W.heap.size W w') := Lib.hid fun W sv' tv' hW hst hcp => by
        rw [hS0] at hW
        rw [HM.out]
        exact mright_any A m c gs secs s sv' tv' (HG.out.below (hgd.trans (hW.mono hgd.size)) (Nat.le_refl _)) hst (Nat.le_trans f1 (by decide)) (Nat.le_trans f2 (by decide)) hcp
      have hSw : S0 wc.drew := by rw [hS0]; exact (Below.refl _ _).drew
      have HSB : Hid (∀ W, S0 W → Below wc.heap.size wc W) := Lib.hid fun W hW => by rw [hS0] at hW; exact hW
      have HSK : Hid (∀ W W', S0 W → Below W.heap.size W W' → S0 W') := Lib.hid fun W W' hW hb => by rw [hS0] at hW ⊢; exact keep_below hb hW
      have fX : ∀ W, S0 W → (Instr.loadAt 48 (.pointer (some ⟨X, 0, none⟩))).run Tryz.prog W = .ok (.agg cX) W := fun W hW => by rw [hS0] at hW; exact blk_loadAt (HXc.out.below hW HXc.out.lt) Tryz.underlying48 rfl hi48
      have HSM : Hid (∀ W sv' tv', S0 W → StIn W s sv' tv' → Calls Tryz.prog 12 #[.agg cX, .agg (stC s sv' tv')] W fun e w' => e = .returned (.bool true) ∧ Below W.heap.size W w') := Lib.hid fun W sv' tv' hW hst => by
        rw [hS0] at hW
        rw [HCX.out]
        exact (msameM_any s s _ _ sv' tv' W (HSTc.out.below hW) hst f1 f2).mono fun e w' ⟨he, hb⟩ => ⟨by rw [he, decide_eq_true rfl], hb⟩
      have HSN : Hid (∀ W sv' tv', S0 W → StIn W s sv' tv' → Calls Tryz.prog 12 #[.agg (stC s sv' tv'), .agg cX] W fun e w' => e = .returned (.bool true) ∧ Below W.heap.size W w') := Lib.hid fun W sv' tv' hW hst => by
        rw [hS0] at hW
        rw [HCX.out]
        exact (msameM_any s s sv' tv' _ _ W hst (HSTc.out.below hW) f1 f2).mono fun e w' ⟨he, hb⟩ => ⟨by rw [he, decide_eq_true rfl], hb⟩
      have HCP : Hid (∀ W, S0 W → Calls Tryz.prog 13 #[.agg cX] W fun e w' => ∃ sv' tv', e = .returned (.agg (stC s sv' tv')) ∧ StIn w' s sv' tv' ∧ Below W.heap.size W w') := Lib.hid fun W hW => by
        rw [hS0] at hW
        rw [HCX.out]
        exact (mcpy_any s _ _ W (HSTc.out.below hW) f1 f2).mono fun e w' ⟨sv', tv', he, ho, hb⟩ => ⟨sv', tv', he, ho.st, hb⟩
      clear hS0 hgd HRT
      repeat' (first
        | go_values
        | go_skip
        | go_guarded
        | ((fail_if_success (with_reducible refine drawn_mark ?_))
           first
             | go_step
             | go_upon
             | go_back
             | (simp only [Int.not_lt, Int.not_le] at *; go_simp)
             | (go_values <;> (try go_simp))
             | (go_ite <;> go_prune <;> (try go_simp))
             | (split <;> (first | (rename_i hx; exact (hx _ rfl).elim) | go_prune))))
      refine G.wp_region_eff S0 [2, 5, 6, 7, 8, 10, 12] 14 (by kernel_rfl) (by kernel_rfl) (by kernel_rfl) hSw ?_
      simp only [List.take_succ_cons, List.take_zero, List.drop_succ_cons, List.drop_zero]
      refine G.wpLexE_take 2 (by kernel_rfl) (by kernel_rfl) ?_
      simp only [List.take_succ_cons, List.take_zero, List.drop_succ_cons, List.drop_zero]
      repeat (first
        | go_big_quiet_skip
        | (go_big_quiet_want
           go_big_quiet_op
           first
             | go_big_quiet_on
             | (apply Exists.intro
                refine ⟨fun W hW => ?_, ?_⟩
                · first
                    | exact rfl
                    | exact ⟨rfl, rfl⟩
                    | (simp only [Result.andThen_ok]; done)
                    | (simp only [Result.andThen_ok]; first | exact ⟨trivial, rfl⟩ | exact rfl | exact ⟨rfl, rfl⟩)
                    | (skip)
                go_big_quiet_on)))
      refine wpQuiet_nil ?_
      show G.wpLexE _ _ _ _ _ _ _ _ _
      refine G.wpLexE_eff (by kernel_rfl) rfl ?_
      go_wp2_with fail
      refine ⟨rfl, hSw, ?_⟩
      refine G.wpLexE_take 2 (by kernel_rfl) (by kernel_rfl) ?_
      simp only [List.take_succ_cons, List.take_zero, List.drop_succ_cons, List.drop_zero]
      repeat (first
        | go_big_quiet_skip
        | (go_big_quiet_want; refine quiet_loadRow 48 (.tmp 7) (by rfl) (.agg cX) _ (by rfl) fX ?_; simp only [Act.put, List.setIfInBounds_toArray, List.set_cons_zero, List.set_cons_succ]; go_big_quiet_on)
        | (go_big_quiet_want; refine quiet_loadRow 38 (.tmp 3) (by rfl) (.agg cA) _ (by rfl) fS ?_; simp only [Act.put, List.setIfInBounds_toArray, List.set_cons_zero, List.set_cons_succ]; go_big_quiet_on)
        | (go_big_quiet_want
           go_big_quiet_op
           first
             | go_big_quiet_on
             | (apply Exists.intro
                refine ⟨fun W hW => ?_, ?_⟩
                · first
                    | exact rfl
                    | exact ⟨rfl, rfl⟩
                    | (simp only [Result.andThen_ok]; done)
                    | (simp only [Result.andThen_ok]; first | exact ⟨trivial, rfl⟩ | exact rfl | exact ⟨rfl, rfl⟩)
                    | (skip)
                go_big_quiet_on)))
      refine wpQuiet_nil ?_
      show G.wpLexE _ _ _ _ _ _ _ _ _
      refine G.wpLexE_effg (by kernel_rfl) (by rfl) ?_
      go_wp2_with fail
      refine (HOF.out _ hSw).mono ?_
      rintro e wd ⟨so, ti, rfl, hso, _, hbd⟩
      have hSd : S0 wd := HSK.out _ _ hSw hbd
      obtain ⟨cO, hcO⟩ : ∃ x, x = stC s so ti := ⟨_, rfl⟩
      rw [← hcO]
      have hq := HSM.out wd so ti hSd hso
      rw [← hcO] at hq
      have HQ := Lib.hid hq
      clear hq hso hbd hcO
      go_wp2_with fail
      refine ⟨rfl, hSd, ?_⟩
      refine G.wpLexE_effg (by kernel_rfl) (by rfl) ?_
      go_wp2_with fail
      refine HQ.out.mono ?_
      rintro e we ⟨rfl, hbe⟩
      have hSe : S0 we := HSK.out _ _ hSd hbe
      clear hbe
      go_wp2_with fail
      refine ⟨rfl, hSe, ?_⟩
      refine G.wpLexE_eff (by kernel_rfl) rfl ?_
      go_wp2_with fail
      refine ⟨rfl, hSe, ?_⟩
      refine G.wpLexE_eff (by kernel_rfl) rfl ?_
      go_wp2_with fail
      refine ⟨rfl, hSe, ?_⟩
      refine G.wpLexE_take 1 (by kernel_rfl) (by kernel_rfl) ?_
      simp only [List.take_succ_cons, List.take_zero, List.drop_succ_cons, List.drop_zero]
      repeat (first
        | go_big_quiet_skip
        | (go_big_quiet_want; refine quiet_loadRow 48 (.tmp 7) (by rfl) (.agg cX) _ (by rfl) fX ?_; simp only [Act.put, List.setIfInBounds_toArray, List.set_cons_zero, List.set_cons_succ]; go_big_quiet_on)
        | (go_big_quiet_want
           go_big_quiet_op
           first
             | go_big_quiet_on
             | (apply Exists.intro
                refine ⟨fun W hW => ?_, ?_⟩
                · first
                    | exact rfl
                    | exact ⟨rfl, rfl⟩
                    | (simp only [Result.andThen_ok]; done)
                    | (simp only [Result.andThen_ok]; first | exact ⟨trivial, rfl⟩ | exact rfl | exact ⟨rfl, rfl⟩)
                    | (skip)
                go_big_quiet_on)))
      refine wpQuiet_nil ?_
      show G.wpLexE _ _ _ _ _ _ _ _ _
      refine G.wpLexE_effg (by kernel_rfl) (by rfl) ?_
      go_wp2_with fail
      refine (HCP.out _ hSe).mono ?_
      rintro e wf ⟨sp, tp, rfl, hsp, hbf⟩
      have hSf : S0 wf := HSK.out _ _ hSe hbf
      obtain ⟨cP, hcP⟩ : ∃ x, x = stC s sp tp := ⟨_, rfl⟩
      rw [← hcP]
      have hq := HSN.out wf sp tp hSf hsp
      rw [← hcP] at hq
      have HQ3 := Lib.hid hq
      clear hq hsp hbf hcP
      go_wp2_with fail
      refine ⟨rfl, hSf, ?_⟩
      refine G.wpLexE_take 1 (by kernel_rfl) (by kernel_rfl) ?_
      simp only [List.take_succ_cons, List.take_zero, List.drop_succ_cons, List.drop_zero]
      repeat (first
        | go_big_quiet_skip
        | (go_big_quiet_want; refine quiet_loadRow 48 (.tmp 7) (by rfl) (.agg cX) _ (by rfl) fX ?_; simp only [Act.put, List.setIfInBounds_toArray, List.set_cons_zero, List.set_cons_succ]; go_big_quiet_on)
        | (go_big_quiet_want
           go_big_quiet_op
           first
             | go_big_quiet_on
             | (apply Exists.intro
                refine ⟨fun W hW => ?_, ?_⟩
                · first
                    | exact rfl
                    | exact ⟨rfl, rfl⟩
                    | (simp only [Result.andThen_ok]; done)
                    | (simp only [Result.andThen_ok]; first | exact ⟨trivial, rfl⟩ | exact rfl | exact ⟨rfl, rfl⟩)
                    | (skip)
                go_big_quiet_on)))
      refine wpQuiet_nil ?_
      show G.wpLexE _ _ _ _ _ _ _ _ _
      refine G.wpLexE_effg (by kernel_rfl) (by rfl) ?_
      go_wp2_with fail
      refine HQ3.out.mono ?_
      rintro e wg ⟨rfl, hbg⟩
      have hSg : S0 wg := HSK.out _ _ hSf hbg
      clear hbg
      go_wp2_with fail
      refine ⟨rfl, hSg, ?_⟩
      refine G.wpLexE_take 1 (by kernel_rfl) (by kernel_rfl) ?_
      simp only [List.take_succ_cons, List.take_zero, List.drop_succ_cons, List.drop_zero]
      repeat (first
        | go_big_quiet_skip
        | (go_big_quiet_want
           go_big_quiet_op
           first
             | go_big_quiet_on
             | (apply Exists.intro
                refine ⟨fun W hW => ?_, ?_⟩
                · first
                    | exact rfl
                    | exact ⟨rfl, rfl⟩
                    | (simp only [Result.andThen_ok]; done)
                    | (simp only [Result.andThen_ok]; first | exact ⟨trivial, rfl⟩ | exact rfl | exact ⟨rfl, rfl⟩)
                    | (skip)
                go_big_quiet_on)))
      refine wpQuiet_nil ?_
      show wpList _ _ _ _ _ _
      go_wp2_with fail
      go_ret
      exact ⟨rfl, HDc.out.trans ((HSB.out _ hSg).mono HDc.out.size)⟩
end Go.Proofs.YtidmbibpoldgcaaGreatDoor
