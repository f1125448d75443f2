/-
  The walk of MasterUnlike.
-/
import Derived.Test.YtidmbibpoldgcaaGreatDoorJ23
import Derived.Test.YtidmbibpoldgcaaGreatDoorJ24
namespace Go.Proofs.YtidmbibpoldgcaaGreatDoor
set_option linter.unusedVariables false
set_option linter.unusedSimpArgs false
open Go.RowKit

theorem quiet_bin {P : Program} {a : Act} {C : World → Prop} {o : Oper} {K : Act → Prop} (b : BinOp) (ty ty2 : TypeId) (x y : Operand) (ho : o.op = .binOp b ty x y ty2) (v p q : Value) (hx : a.eval x = p) (hy : a.eval y = q) (hg : ∀ W, (eqGuard b ty x y p q).run P W = .ok () W) (h : ∀ W, C W → (binOp b ty p q).run P W = .ok v W) (hk : K (a.put o.dst v)) : o.quiet P a C K :=
  ⟨v, fun W hW => by
    unfold Oper.quietAt execOp
    simp only [ho, hx, hy, Sem.run_bind, hg, h W hW, Sem.run_pure, Result.andThen_ok]
    exact ⟨rfl, rfl⟩, hk⟩
theorem quiet_sliceh {P : Program} {a : Act} {C : World → Prop} {o : Oper} {K : Act → Prop} (ty : TypeId) (x y : Operand) (ho : o.op = .slice ty x none (some y) none) (v p q : Value) (hx : a.eval x = p) (hy : a.eval y = q) (h : ∀ W, C W → (Instr.sliceAt ty p none (some q) none).run P W = .ok v W) (hk : K (a.put o.dst v)) : o.quiet P a C K :=
  ⟨v, fun W hW => by
    unfold Oper.quietAt execOp
    simp only [ho, hx, hy, Option.map_some, Option.map_none, Sem.run_bind, h W hW, Sem.run_pure, Result.andThen_ok]
    exact ⟨rfl, rfl⟩, hk⟩
theorem ba_take (l : List UInt8) (k : Nat) : (ByteArray.mk l.toArray).extract 0 k = ⟨(l.take k).toArray⟩ := by
  apply ByteArray.ext
  simp
set_option maxRecDepth 100000 in
set_option maxHeartbeats 4000000 in
theorem masterUnlike_any (A : Option Addr) (m c : Nat) (gs : List (Int × Int)) (secs : Int) (s o : StA) (sv tv su tu : Value) (cut : Nat) {w : World} (hg : GeoAt w A m gs) (h : StIn w s sv tv) (g : StIn w o su tu) (hcut : cut < 65536)
    (op : s.p.Ok) (ops : ∀ x ∈ s.snaps, x.p.Ok) (oq : o.p.Ok) (oqs : ∀ x ∈ o.snaps, x.p.Ok) :
    Calls Tryz.prog 3 #[.agg #[.slice A m c, .int .i64 secs], .agg (stC s sv tv), .agg (stC o su tu), .int .u16 cut] w fun e w' => e = .returned (.bool true) ∧ Below w.heap.size w w' := by
  obtain ⟨A1, c1, rfl⟩ := h.snaps.form
  obtain ⟨A2, c2, rfl⟩ := h.stale.form
  obtain ⟨E1, d1, rfl⟩ := g.snaps.form
  obtain ⟨E2, d2, rfl⟩ := g.stale.form
  have H := Lib.hid h
  have GG := Lib.hid g
  have HG := Lib.hid hg
  have HOP := Lib.hid (And.intro op ops)
  have HOQ := Lib.hid (And.intro oq oqs)
  have HCUT := Lib.hid hcut
  have hi35 : (Tryz.prog.info? 38).map (·.size) = some (stC s (.slice A1 s.snaps.length c1) (.slice A2 s.stale.length c2)).size := by rw [stC_size]; kernel_rfl
  have hj35 : (Tryz.prog.info? 38).map (·.size) = some (stC o (.slice E1 o.snaps.length d1) (.slice E2 o.stale.length d2)).size := by rw [stC_size]; kernel_rfl
  obtain ⟨cA, hcA⟩ : ∃ x, x = stC s (.slice A1 s.snaps.length c1) (.slice A2 s.stale.length c2) := ⟨_, rfl⟩
  obtain ⟨cE, hcE⟩ : ∃ x, x = stC o (.slice E1 o.snaps.length d1) (.slice E2 o.stale.length d2) := ⟨_, rfl⟩
  rw [← hcA] at hi35 ⊢
  rw [← hcE] at hj35 ⊢
  have HCA := Lib.hid hcA
  have HCE := Lib.hid hcE
  obtain ⟨w1, hw1⟩ : ∃ x, ((w.alloc (.cells #[.slice A m c, .int .i64 secs] 24)).alloc (.cells cA 38)).alloc (.cells cE 38) = x := ⟨_, rfl⟩
  have HG1 : Hid (Blk w1 w.heap.size 24 #[.slice A m c, .int .i64 secs]) := Lib.hid (by rw [← hw1]; exact ((Blk.new _ _ _).alloc _).alloc _)
  have HK1 : Hid (Blk w1 (w.heap.size + 1) 38 cA) := Lib.hid (by rw [← hw1]; exact (Blk.new2 w _ _ _).alloc _)
  have HE1 : Hid (Blk w1 (w.heap.size + 2) 38 cE) := Lib.hid (by
    rw [← hw1]
    have := Blk.new ((w.alloc (.cells #[.slice A m c, .int .i64 secs] 24)).alloc (.cells cA 38)) 38 cE
    rw [World.size_alloc, World.size_alloc] at this
    exact this)
  have HD1 : Hid (Below w.heap.size w w1) := Lib.hid (by rw [← hw1]; exact keep_alloc (keep_alloc (keep_alloc (Below.refl _ _) _) _) _)
  have HW1 := Lib.hid hw1
  clear h g hg hcA hcE hw1 op ops oq oqs hcut
  go_enter Tryz.func3, Tryz.ntmps3
  repeat' (first
    | go_values
    | go_skip
    | go_guarded
    | ((fail_if_success (with_reducible refine drawn_mark ?_))
       first
         | go_step
         | go_upon
         | go_back
         | (simp only [Int.not_lt, Int.not_le] at *; go_simp)
         | (go_values <;> (try go_simp))
         | (go_ite <;> go_prune <;> (try go_simp))
         | (split <;> (first | (rename_i hx; exact (hx _ rfl).elim) | go_prune))))
  rw [HW1.out]
  clear HW1
  obtain ⟨S0, hS0⟩ : ∃ S0 : World → Prop, S0 = fun W => Below w1.heap.size w1 W := ⟨_, rfl⟩
  have hSw : S0 w1.drew := by rw [hS0]; exact (Below.refl _ _).drew
  have HSB : Hid (∀ W, S0 W → Below w1.heap.size w1 W) := Lib.hid fun W hW => by rw [hS0] at hW; exact hW
  have HSK : Hid (∀ W W', S0 W → Below W.heap.size W W' → S0 W') := Lib.hid fun W W' hW hb => by rw [hS0] at hW ⊢; exact keep_below hb hW
  have HST : Hid (∀ W W', S0 W → Below w1.heap.size w1 W' → S0 W') := Lib.hid fun W W' _ hb => by rw [hS0]; exact hb
  clear hS0
  have hKs : ∀ W, S0 W → Blk W (w.heap.size + 1) 38 cA := fun W hW => HK1.out.below (HSB.out W hW) HK1.out.lt
  have hKo : ∀ W, S0 W → Blk W (w.heap.size + 2) 38 cE := fun W hW => HE1.out.below (HSB.out W hW) HE1.out.lt
  have HBW : Hid (∀ W, S0 W → Below w.heap.size w W) := Lib.hid fun W hW => HD1.out.trans ((HSB.out W hW).mono HD1.out.size)
  have fg0 : ∀ W, S0 W → W.cell? ⟨w.heap.size, 0, none⟩ = some (.slice A m c) := fun W hW => (HG1.out.below (HSB.out W hW) HG1.out.lt).at_ rfl
  have fg1 : ∀ W, S0 W → W.cell? ⟨w.heap.size, 1, none⟩ = some (.int .i64 secs) := fun W hW => (HG1.out.below (HSB.out W hW) HG1.out.lt).at_ rfl
  have fS : ∀ W, S0 W → (Instr.loadAt 38 (.pointer (some ⟨w.heap.size + 1, 0, none⟩))).run Tryz.prog W = .ok (.agg cA) W := fun W hW => blk_loadAt (hKs W hW) Tryz.underlying38 rfl hi35
  have fO : ∀ W, S0 W → (Instr.loadAt 38 (.pointer (some ⟨w.heap.size + 2, 0, none⟩))).run Tryz.prog W = .ok (.agg cE) W := fun W hW => blk_loadAt (hKo W hW) Tryz.underlying38 rfl hj35
  have HFS : Hid (∀ W, S0 W → Calls Tryz.prog 6 #[.agg cA] W fun e w' => e = .returned (.bool (decide (s.snaps.length ≤ 30 ∧ s.stale.length ≤ 60))) ∧ Below W.heap.size W w') := Lib.hid fun W hW => by
    rw [HCA.out]; exact mfew_any s _ _ W (H.out.below (HBW.out W hW))
  have HFO : Hid (∀ W, S0 W → Calls Tryz.prog 6 #[.agg cE] W fun e w' => e = .returned (.bool (decide (o.snaps.length ≤ 30 ∧ o.stale.length ≤ 60))) ∧ Below W.heap.size W w') := Lib.hid fun W hW => by
    rw [HCE.out]; exact mfew_any o _ _ W (GG.out.below (HBW.out W hW))
  have HAW : Hid (∀ W, S0 W → Calls Tryz.prog 5 #[] W fun e w' => e = .returned (.bool true) ∧ Below W.heap.size W w') := Lib.hid fun W _ => mawake_any W
  by_cases hf : ¬ (s.snaps.length ≤ 30 ∧ s.stale.length ≤ 60)
  · rw [decide_eq_false hf] at HFS
    clear hf hKs hKo
    refine wp_region_cls S0 (by kernel_rfl) (by kernel_rfl) hSw ?_
    repeat (first
      | go_big_quiet_skip
      | (go_big_quiet_want; refine quiet_loadRow 38 (.tmp 5) (by rfl) (.agg cA) _ (by rfl) fS ?_; simp only [Act.put, List.setIfInBounds_toArray, List.set_cons_zero, List.set_cons_succ]; go_big_quiet_on)
      | (go_big_quiet_want; refine quiet_loadRow 38 (.tmp 6) (by rfl) (.agg cE) _ (by rfl) fO ?_; simp only [Act.put, List.setIfInBounds_toArray, List.set_cons_zero, List.set_cons_succ]; go_big_quiet_on)
      | (go_big_quiet_want
         go_big_quiet_op
         first
           | go_big_quiet_on
           | (apply Exists.intro
              refine ⟨fun W hW => ?_, ?_⟩
              · first
                  | exact rfl
                  | exact ⟨rfl, rfl⟩
                  | (have e0 := fg0 W hW; simp only [e0, Result.andThen_ok]; done)
                  | (have e0 := fg0 W hW; simp only [e0, Result.andThen_ok]; first | exact ⟨trivial, rfl⟩ | exact rfl | exact ⟨rfl, rfl⟩)
                  | ((go_at_call 5; with_reducible refine (HAW.out W hW).mono ?_; rintro e w' ⟨rfl, hb⟩; exact ⟨rfl, HSK.out _ _ hW hb⟩))
                  | ((first | (go_at_call 6; with_reducible refine (HFS.out W hW).mono ?_) | (go_at_call 6; with_reducible refine (HFO.out W hW).mono ?_)); rintro e w' ⟨rfl, hb⟩; exact ⟨rfl, HSK.out _ _ hW hb⟩)
              go_big_quiet_on)))
    refine wpQuiet_nil ?_
    intro w3 hS3
    clear fg0 fg1 fS fO
    go_wp2_with fail
    refine (mawake_any _).mono ?_
    rintro e wz ⟨rfl, hbz⟩
    have HDZ := Lib.hid (keep_below hbz (HBW.out _ hS3))
    clear hbz
    go_wp2_with fail
    go_ret
    exact ⟨rfl, HDZ.out⟩
  replace hf := Classical.not_not.1 hf
  rw [decide_eq_true hf] at HFS
  obtain ⟨f1, f2⟩ := hf
  by_cases hf : ¬ (o.snaps.length ≤ 30 ∧ o.stale.length ≤ 60)
  · rw [decide_eq_false hf] at HFO
    clear hf hKs hKo
    refine wp_region_cls S0 (by kernel_rfl) (by kernel_rfl) hSw ?_
    repeat (first
      | go_big_quiet_skip
      | (go_big_quiet_want; refine quiet_loadRow 38 (.tmp 5) (by rfl) (.agg cA) _ (by rfl) fS ?_; simp only [Act.put, List.setIfInBounds_toArray, List.set_cons_zero, List.set_cons_succ]; go_big_quiet_on)
      | (go_big_quiet_want; refine quiet_loadRow 38 (.tmp 6) (by rfl) (.agg cE) _ (by rfl) fO ?_; simp only [Act.put, List.setIfInBounds_toArray, List.set_cons_zero, List.set_cons_succ]; go_big_quiet_on)
      | (go_big_quiet_want
         go_big_quiet_op
         first
           | go_big_quiet_on
           | (apply Exists.intro
              refine ⟨fun W hW => ?_, ?_⟩
              · first
                  | exact rfl
                  | exact ⟨rfl, rfl⟩
                  | (have e0 := fg0 W hW; simp only [e0, Result.andThen_ok]; done)
                  | (have e0 := fg0 W hW; simp only [e0, Result.andThen_ok]; first | exact ⟨trivial, rfl⟩ | exact rfl | exact ⟨rfl, rfl⟩)
                  | ((go_at_call 5; with_reducible refine (HAW.out W hW).mono ?_; rintro e w' ⟨rfl, hb⟩; exact ⟨rfl, HSK.out _ _ hW hb⟩))
                  | ((first | (go_at_call 6; with_reducible refine (HFS.out W hW).mono ?_) | (go_at_call 6; with_reducible refine (HFO.out W hW).mono ?_)); rintro e w' ⟨rfl, hb⟩; exact ⟨rfl, HSK.out _ _ hW hb⟩)
              go_big_quiet_on)))
    refine wpQuiet_nil ?_
    intro w3 hS3
    clear fg0 fg1 fS fO
    go_wp2_with fail
    refine (mawake_any _).mono ?_
    rintro e wz ⟨rfl, hbz⟩
    have HDZ := Lib.hid (keep_below hbz (HBW.out _ hS3))
    clear hbz
    go_wp2_with fail
    go_ret
    exact ⟨rfl, HDZ.out⟩
  replace hf := Classical.not_not.1 hf
  rw [decide_eq_true hf] at HFO
  obtain ⟨m1, m2⟩ := hf
  by_cases hm : 100 < m
  · have dm : decide ((100 : Int) < (m : Int)) = true := decide_eq_true (by omega)
    clear hm hKs hKo
    refine wp_region_cls S0 (by kernel_rfl) (by kernel_rfl) hSw ?_
    repeat (first
      | go_big_quiet_skip
      | (go_big_quiet_want; refine quiet_loadRow 38 (.tmp 5) (by rfl) (.agg cA) _ (by rfl) fS ?_; simp only [Act.put, List.setIfInBounds_toArray, List.set_cons_zero, List.set_cons_succ]; go_big_quiet_on)
      | (go_big_quiet_want; refine quiet_loadRow 38 (.tmp 6) (by rfl) (.agg cE) _ (by rfl) fO ?_; simp only [Act.put, List.setIfInBounds_toArray, List.set_cons_zero, List.set_cons_succ]; go_big_quiet_on)
      | (go_big_quiet_want
         go_big_quiet_op
         first
           | go_big_quiet_on
           | (apply Exists.intro
              refine ⟨fun W hW => ?_, ?_⟩
              · first
                  | exact rfl
                  | exact ⟨rfl, rfl⟩
                  | (have e0 := fg0 W hW; simp only [e0, Result.andThen_ok]; done)
                  | (have e0 := fg0 W hW; simp only [e0, Result.andThen_ok]; first | exact ⟨trivial, rfl⟩ | exact rfl | exact ⟨rfl, rfl⟩)
                  | ((go_at_call 5; with_reducible refine (HAW.out W hW).mono ?_; rintro e w' ⟨rfl, hb⟩; exact ⟨rfl, HSK.out _ _ hW hb⟩))
                  | ((first | (go_at_call 6; with_reducible refine (HFS.out W hW).mono ?_) | (go_at_call 6; with_reducible refine (HFO.out W hW).mono ?_)); rintro e w' ⟨rfl, hb⟩; exact ⟨rfl, HSK.out _ _ hW hb⟩)
              go_big_quiet_on)))
    refine wpQuiet_nil ?_
    intro w3 hS3
    clear fg0 fg1 fS fO
    go_wp2_with fail
    refine (mawake_any _).mono ?_
    rintro e wz ⟨rfl, hbz⟩
    have HDZ := Lib.hid (keep_below hbz (HBW.out _ hS3))
    clear hbz
    go_wp2_with fail
    go_ret
    exact ⟨rfl, HDZ.out⟩
  have dm : decide ((100 : Int) < (m : Int)) = false := decide_eq_false (by omega)
  clear hm
  obtain ⟨b1, hb1⟩ : ∃ b, b = mRight gs secs s := ⟨_, rfl⟩
  obtain ⟨b2, hb2⟩ : ∃ b, b = mRight gs secs o := ⟨_, rfl⟩
  have HB1 := Lib.hid hb1
  have HB2 := Lib.hid hb2
  clear hb1 hb2
  have HOF : Hid (∀ W, S0 W → Calls Tryz.prog 8 #[.agg cA] W fun e w' => ∃ sv' tv', e = .returned (.agg (stC s sv' tv')) ∧ StIn w' s sv' tv' ∧ CapOk sv' ∧ Below W.heap.size W w') := Lib.hid fun W hW => by
    rw [HCA.out]
    exact (mof_any s _ _ W (H.out.below (HBW.out W hW)) f1 f2).mono fun e w' ⟨sv', tv', he, ho, hb⟩ => ⟨sv', tv', he, ho.st, own_cap ho.snaps, hb⟩
  have HOO : Hid (∀ W, S0 W → Calls Tryz.prog 8 #[.agg cE] W fun e w' => ∃ sv' tv', e = .returned (.agg (stC o sv' tv')) ∧ StIn w' o sv' tv' ∧ CapOk sv' ∧ Below W.heap.size W w') := Lib.hid fun W hW => by
    rw [HCE.out]
    exact (mof_any o _ _ W (GG.out.below (HBW.out W hW)) m1 m2).mono fun e w' ⟨sv', tv', he, ho, hb⟩ => ⟨sv', tv', he, ho.st, own_cap ho.snaps, hb⟩
  have HRT : Hid (∀ W sv' tv', S0 W → StIn W s sv' tv' → CapOk sv' → Calls Tryz.prog 7 #[.agg #[.slice A m c, .int .i64 secs], .agg (stC s sv' tv')] W fun e w' => e = .returned (.bool b1) ∧ Below W.heap.size W w') := Lib.hid fun W sv' tv' hW hst hcp => by
    rw [HB1.out]
    exact mright_any A m c gs secs s sv' tv' (HG.out.below (HBW.out W hW) (Nat.le_refl _)) hst (Nat.le_trans f1 (by decide)) (Nat.le_trans f2 (by decide)) hcp
  have HRO : Hid (∀ W sv' tv', S0 W → StIn W o sv' tv' → CapOk sv' → Calls Tryz.prog 7 #[.agg #[.slice A m c, .int .i64 secs], .agg (stC o sv' tv')] W fun e w' => e = .returned (.bool b2) ∧ Below W.heap.size W w') := Lib.hid fun W sv' tv' hW hst hcp => by
    rw [HB2.out]
    exact mright_any A m c gs secs o sv' tv' (HG.out.below (HBW.out W hW) (Nat.le_refl _)) hst (Nat.le_trans m1 (by decide)) (Nat.le_trans m2 (by decide)) hcp
  refine Pl.wp_region_plan S0 [0, 1, 2, 3, 4, 5, 6, 7, 8, 9, 10, 11, 12, 13, 14, 15, 16, 17, 18, 21, 22, 23, 24, 25, 28, 29, 30, 31] (Pl.Plan.seg 0 32 .done) (by kernel_rfl) (by kernel_rfl) hSw ?_
  refine Pl.efOp_any rfl rfl ?_
  go_wp2_with fail
  refine (HAW.out _ hSw).mono ?_
  rintro e w2 ⟨rfl, hbq⟩
  have hS2 : S0 w2 := HSK.out _ _ hSw hbq
  clear hbq
  go_wp2_with fail
  refine ⟨rfl, by assumption, ?_⟩
  repeat (refine Pl.efOp_any rfl rfl ?_; go_wp2_with (first | ((with_reducible refine wpList_load_want ?qw 38 (.tmp 5) ?q2 (w.heap.size + 1) ?q3 38 cA _ (hKs _ (by assumption)) Tryz.underlying38 rfl hi35 ?_); (case q2 => rfl); (case q3 => rfl); (case qw => rfl); simp only [Act.put, List.setIfInBounds_toArray, List.set_cons_zero, List.set_cons_succ]) | ((with_reducible refine wpList_load_want ?qw 38 (.tmp 6) ?q2 (w.heap.size + 2) ?q3 38 cE _ (hKo _ (by assumption)) Tryz.underlying38 rfl hj35 ?_); (case q2 => rfl); (case q3 => rfl); (case qw => rfl); simp only [Act.put, List.setIfInBounds_toArray, List.set_cons_zero, List.set_cons_succ])); refine ⟨rfl, by assumption, ?_⟩)
  clear hSw
  refine Pl.efOp_any rfl rfl ?_
  go_wp2_with fail
  refine (HFS.out _ hS2).mono ?_
  rintro e w3 ⟨rfl, hbq⟩
  have hS3 : S0 w3 := HSK.out _ _ hS2 hbq
  clear hbq
  clear hS2
  go_wp2_with fail
  refine ⟨rfl, by assumption, ?_⟩
  repeat (refine Pl.efOp_any rfl rfl ?_; go_wp2_with (first | ((with_reducible refine wpList_load_want ?qw 38 (.tmp 5) ?q2 (w.heap.size + 1) ?q3 38 cA _ (hKs _ (by assumption)) Tryz.underlying38 rfl hi35 ?_); (case q2 => rfl); (case q3 => rfl); (case qw => rfl); simp only [Act.put, List.setIfInBounds_toArray, List.set_cons_zero, List.set_cons_succ]) | ((with_reducible refine wpList_load_want ?qw 38 (.tmp 6) ?q2 (w.heap.size + 2) ?q3 38 cE _ (hKo _ (by assumption)) Tryz.underlying38 rfl hj35 ?_); (case q2 => rfl); (case q3 => rfl); (case qw => rfl); simp only [Act.put, List.setIfInBounds_toArray, List.set_cons_zero, List.set_cons_succ])); refine ⟨rfl, by assumption, ?_⟩)
  refine Pl.efOp_any rfl rfl ?_
  go_wp2_with fail
  refine (HFO.out _ hS3).mono ?_
  rintro e w4 ⟨rfl, hbq⟩
  have hS4 : S0 w4 := HSK.out _ _ hS3 hbq
  clear hbq
  have g0 := fg0 w4 hS4
  clear hS3
  go_wp2_with fail
  refine ⟨rfl, by assumption, ?_⟩
  repeat (refine Pl.efOp_any rfl rfl ?_; go_wp2_with (first | ((with_reducible refine wpList_load_want ?qw 38 (.tmp 5) ?q2 (w.heap.size + 1) ?q3 38 cA _ (hKs _ (by assumption)) Tryz.underlying38 rfl hi35 ?_); (case q2 => rfl); (case q3 => rfl); (case qw => rfl); simp only [Act.put, List.setIfInBounds_toArray, List.set_cons_zero, List.set_cons_succ]) | ((with_reducible refine wpList_load_want ?qw 38 (.tmp 6) ?q2 (w.heap.size + 2) ?q3 38 cE _ (hKo _ (by assumption)) Tryz.underlying38 rfl hj35 ?_); (case q2 => rfl); (case q3 => rfl); (case qw => rfl); simp only [Act.put, List.setIfInBounds_toArray, List.set_cons_zero, List.set_cons_succ])); refine ⟨rfl, by assumption, ?_⟩)
  clear g0
  refine Pl.wpPlan_take (k := 19) 2 (by kernel_rfl) (by kernel_rfl) ?_
  simp only [List.take_succ_cons, List.take_zero, List.drop_succ_cons, List.drop_zero]
  repeat (first
    | go_big_quiet_skip
    | (go_big_quiet_want; refine quiet_loadRow 38 (.tmp 5) (by rfl) (.agg cA) _ (by rfl) fS ?_; simp only [Act.put, List.setIfInBounds_toArray, List.set_cons_zero, List.set_cons_succ]; go_big_quiet_on)
    | (go_big_quiet_want
       go_big_quiet_op
       first
         | go_big_quiet_on
         | (apply Exists.intro
            refine ⟨fun W hW => ?_, ?_⟩
            · first
                | exact rfl
                | exact ⟨rfl, rfl⟩
                | (have e0 := fg0 W hW; have e1 := fg1 W hW; simp only [e0, e1, Result.andThen_ok]; done)
                | (have e0 := fg0 W hW; have e1 := fg1 W hW; simp only [e0, e1, Result.andThen_ok]; first | exact ⟨trivial, rfl⟩ | exact rfl | exact ⟨rfl, rfl⟩)
                | (skip)
            go_big_quiet_on)))
  refine wpQuiet_nil ?_
  refine Pl.efOp_any rfl rfl ?_
  go_wp2_with fail
  refine (HOF.out _ hS4).mono ?_
  rintro e w5 ⟨so, ti, rfl, hso, hcpo, hbq⟩
  have hS5 : S0 w5 := HSK.out _ _ hS4 hbq
  have hq := HRT.out w5 so ti hS5 hso hcpo
  obtain ⟨cO, hcO⟩ : ∃ x, x = stC s so ti := ⟨_, rfl⟩
  rw [← hcO] at hq ⊢
  have HQ := Lib.hid hq
  clear hq hso hbq hcO hcpo
  go_wp2_with fail
  refine ⟨rfl, hS5, ?_⟩
  refine Pl.efOp_any rfl rfl ?_
  go_wp2_with fail
  refine HQ.out.mono ?_
  rintro e w6 ⟨rfl, hbq⟩
  have hS6 : S0 w6 := HSK.out _ _ hS5 hbq
  clear hbq hS4 hS5
  cases b1 with
  | false =>
    go_wp2_with fail
    refine ⟨rfl, by assumption, ?_⟩
    repeat (refine Pl.efOp_any rfl rfl ?_; go_wp2_with (first | ((with_reducible refine wpList_load_want ?qw 38 (.tmp 5) ?q2 (w.heap.size + 1) ?q3 38 cA _ (hKs _ (by assumption)) Tryz.underlying38 rfl hi35 ?_); (case q2 => rfl); (case q3 => rfl); (case qw => rfl); simp only [Act.put, List.setIfInBounds_toArray, List.set_cons_zero, List.set_cons_succ]) | ((with_reducible refine wpList_load_want ?qw 38 (.tmp 6) ?q2 (w.heap.size + 2) ?q3 38 cE _ (hKo _ (by assumption)) Tryz.underlying38 rfl hj35 ?_); (case q2 => rfl); (case q3 => rfl); (case qw => rfl); simp only [Act.put, List.setIfInBounds_toArray, List.set_cons_zero, List.set_cons_succ])); refine ⟨rfl, by assumption, ?_⟩)
    refine Pl.wpPlan_take (k := 26) 2 (by kernel_rfl) (by kernel_rfl) ?_
    simp only [List.take_succ_cons, List.take_zero, List.drop_succ_cons, List.drop_zero]
    repeat (first
      | go_big_quiet_skip
      | (go_big_quiet_want
         go_big_quiet_op
         first
           | go_big_quiet_on
           | (apply Exists.intro
              refine ⟨fun W hW => ?_, ?_⟩
              · first
                  | exact rfl
                  | exact ⟨rfl, rfl⟩
                  | (simp only [Result.andThen_ok]; done)
                  | (simp only [Result.andThen_ok]; first | exact ⟨trivial, rfl⟩ | exact rfl | exact ⟨rfl, rfl⟩)
                  | (skip)
              go_big_quiet_on)))
    refine wpQuiet_nil ?_
    repeat (refine Pl.efOp_any rfl rfl ?_; go_wp2_with (first | ((with_reducible refine wpList_load_want ?qw 38 (.tmp 5) ?q2 (w.heap.size + 1) ?q3 38 cA _ (hKs _ (by assumption)) Tryz.underlying38 rfl hi35 ?_); (case q2 => rfl); (case q3 => rfl); (case qw => rfl); simp only [Act.put, List.setIfInBounds_toArray, List.set_cons_zero, List.set_cons_succ]) | ((with_reducible refine wpList_load_want ?qw 38 (.tmp 6) ?q2 (w.heap.size + 2) ?q3 38 cE _ (hKo _ (by assumption)) Tryz.underlying38 rfl hj35 ?_); (case q2 => rfl); (case q3 => rfl); (case qw => rfl); simp only [Act.put, List.setIfInBounds_toArray, List.set_cons_zero, List.set_cons_succ])); refine ⟨rfl, by assumption, ?_⟩)
    simp only [Pl.Plan.seg, Pl.wpPlan]
    go_wp2_with fail
    refine (mawake_any _).mono ?_
    rintro e wz ⟨rfl, hbz⟩
    have HDZ := Lib.hid (keep_below hbz (HBW.out _ hS6))
    clear hbz
    go_wp2_with fail
    go_ret
    exact ⟨rfl, HDZ.out⟩
  | true =>
    go_wp2_with fail
    refine ⟨rfl, by assumption, ?_⟩
    repeat (refine Pl.efOp_any rfl rfl ?_; go_wp2_with (first | ((with_reducible refine wpList_load_want ?qw 38 (.tmp 5) ?q2 (w.heap.size + 1) ?q3 38 cA _ (hKs _ (by assumption)) Tryz.underlying38 rfl hi35 ?_); (case q2 => rfl); (case q3 => rfl); (case qw => rfl); simp only [Act.put, List.setIfInBounds_toArray, List.set_cons_zero, List.set_cons_succ]) | ((with_reducible refine wpList_load_want ?qw 38 (.tmp 6) ?q2 (w.heap.size + 2) ?q3 38 cE _ (hKo _ (by assumption)) Tryz.underlying38 rfl hj35 ?_); (case q2 => rfl); (case q3 => rfl); (case qw => rfl); simp only [Act.put, List.setIfInBounds_toArray, List.set_cons_zero, List.set_cons_succ])); refine ⟨rfl, by assumption, ?_⟩)
    refine Pl.wpPlan_take (k := 26) 2 (by kernel_rfl) (by kernel_rfl) ?_
    simp only [List.take_succ_cons, List.take_zero, List.drop_succ_cons, List.drop_zero]
    repeat (first
      | go_big_quiet_skip
      | (go_big_quiet_want; refine quiet_loadRow 38 (.tmp 6) (by rfl) (.agg cE) _ (by rfl) fO ?_; simp only [Act.put, List.setIfInBounds_toArray, List.set_cons_zero, List.set_cons_succ]; go_big_quiet_on)
      | (go_big_quiet_want
         go_big_quiet_op
         first
           | go_big_quiet_on
           | (apply Exists.intro
              refine ⟨fun W hW => ?_, ?_⟩
              · first
                  | exact rfl
                  | exact ⟨rfl, rfl⟩
                  | (have e0 := fg0 W hW; have e1 := fg1 W hW; simp only [e0, e1, Result.andThen_ok]; done)
                  | (have e0 := fg0 W hW; have e1 := fg1 W hW; simp only [e0, e1, Result.andThen_ok]; first | exact ⟨trivial, rfl⟩ | exact rfl | exact ⟨rfl, rfl⟩)
                  | (skip)
              go_big_quiet_on)))
    refine wpQuiet_nil ?_
    refine Pl.efOp_any rfl rfl ?_
    go_wp2_with fail
    refine (HOO.out _ hS6).mono ?_
    rintro e w7 ⟨so, ti, rfl, hso, hcpo, hbq⟩
    have hS7 : S0 w7 := HSK.out _ _ hS6 hbq
    have hq := HRO.out w7 so ti hS7 hso hcpo
    obtain ⟨cO, hcO⟩ : ∃ x, x = stC o so ti := ⟨_, rfl⟩
    rw [← hcO] at hq ⊢
    have HQ := Lib.hid hq
    clear hq hso hbq hcO hcpo
    go_wp2_with fail
    refine ⟨rfl, hS7, ?_⟩
    refine Pl.efOp_any rfl rfl ?_
    go_wp2_with fail
    refine HQ.out.mono ?_
    rintro e w8 ⟨rfl, hbq⟩
    have hS8 : S0 w8 := HSK.out _ _ hS7 hbq
    clear hbq hS6 hS7
    cases b2 with
    | false =>
      go_wp2_with fail
      refine ⟨rfl, by assumption, ?_⟩
      repeat (refine Pl.efOp_any rfl rfl ?_; go_wp2_with (first | ((with_reducible refine wpList_load_want ?qw 38 (.tmp 5) ?q2 (w.heap.size + 1) ?q3 38 cA _ (hKs _ (by assumption)) Tryz.underlying38 rfl hi35 ?_); (case q2 => rfl); (case q3 => rfl); (case qw => rfl); simp only [Act.put, List.setIfInBounds_toArray, List.set_cons_zero, List.set_cons_succ]) | ((with_reducible refine wpList_load_want ?qw 38 (.tmp 6) ?q2 (w.heap.size + 2) ?q3 38 cE _ (hKo _ (by assumption)) Tryz.underlying38 rfl hj35 ?_); (case q2 => rfl); (case q3 => rfl); (case qw => rfl); simp only [Act.put, List.setIfInBounds_toArray, List.set_cons_zero, List.set_cons_succ])); refine ⟨rfl, by assumption, ?_⟩)
      simp only [Pl.Plan.seg, Pl.wpPlan]
      go_wp2_with fail
      refine (mawake_any _).mono ?_
      rintro e wz ⟨rfl, hbz⟩
      have HDZ := Lib.hid (keep_below hbz (HBW.out _ hS8))
      clear hbz
      go_wp2_with fail
      go_ret
      exact ⟨rfl, HDZ.out⟩
    | true =>
      go_wp2_with fail
      refine ⟨rfl, by assumption, ?_⟩
      repeat (refine Pl.efOp_any rfl rfl ?_; go_wp2_with (first | ((with_reducible refine wpList_load_want ?qw 38 (.tmp 5) ?q2 (w.heap.size + 1) ?q3 38 cA _ (hKs _ (by assumption)) Tryz.underlying38 rfl hi35 ?_); (case q2 => rfl); (case q3 => rfl); (case qw => rfl); simp only [Act.put, List.setIfInBounds_toArray, List.set_cons_zero, List.set_cons_succ]) | ((with_reducible refine wpList_load_want ?qw 38 (.tmp 6) ?q2 (w.heap.size + 2) ?q3 38 cE _ (hKo _ (by assumption)) Tryz.underlying38 rfl hj35 ?_); (case q2 => rfl); (case q3 => rfl); (case qw => rfl); simp only [Act.put, List.setIfInBounds_toArray, List.set_cons_zero, List.set_cons_succ])); refine ⟨rfl, by assumption, ?_⟩)
      simp only [Pl.Plan.seg, Pl.wpPlan]
      have HSD : Hid (∀ W, S0 W → S0 W.drew) := Lib.hid fun W hW => HSK.out W _ hW (Below.refl _ _).drew
      have hok1 := mRight_ok HB1.out.symm
      have hok2 := mRight_ok HB2.out.symm
      obtain ⟨B1, hB1⟩ : ∃ B, B = mB s := ⟨_, rfl⟩
      obtain ⟨B2, hB2⟩ : ∃ B, B = mB o := ⟨_, rfl⟩
      have hlB : 0 < B1.length ∧ B1.length ≤ 20000 := by rw [hB1]; exact ⟨mB_pos hok1 HOP.out.1, mB_len s f1 f2⟩
      obtain ⟨k, hk⟩ : ∃ k, k = cut % B1.length := ⟨_, rfl⟩
      have hkl : k < B1.length := by rw [hk]; exact Nat.mod_lt _ hlB.1
      have HINJ : Hid (B1 = B2 → s = o) := Lib.hid fun hh => rd_inj hok1 HOP.out.1 HOP.out.2 f1 f2 hok2 HOQ.out.1 HOQ.out.2 m1 m2 (by rw [← hB1, ← hB2]; exact hh)
      have HB12 := Lib.hid (And.intro hB1 hB2)
      have hcutr : rdS gs secs (B1.take k) = (stZ, 2) := by rw [hB1]; exact rd_cut hok1 HOP.out.1 HOP.out.2 f1 f2 (by rw [← hB1]; exact hkl)
      have HREAD : Hid (∀ W, S0 W → Calls Tryz.prog 10 #[.agg #[.slice A m c, .int .i64 secs], str (B1.take k)] W fun x w' => ∃ sv tv, x = .returned (.tuple #[.agg (stC stZ sv tv), .int .i64 2]) ∧ StIn w' stZ sv tv ∧ Below W.heap.size W w') := Lib.hid fun W hW => by
        have := read_any A m c gs secs (B1.take k) (HG.out.below (HBW.out W hW) (Nat.le_refl _)) (by rw [List.length_take]; omega)
        rw [hcutr] at this
        exact this
      have HBY1 : Hid (∀ W sv' tv', StIn W s sv' tv' → Calls Tryz.prog 9 #[.agg (stC s sv' tv')] W fun e w' => e = .returned (.tuple #[str B1, .int .i64 0]) ∧ Below W.heap.size W w') := Lib.hid fun W sv' tv' hst => by
        have := mbytes_any s sv' tv' W hst f1 f2 HOP.out.1 HOP.out.2
        rw [show mbS s = B1 by rw [hB1]; unfold mbS; rw [hok1]; rfl, show mbE s = 0 by unfold mbE; rw [hok1]; rfl] at this
        exact this
      have HBY2 : Hid (∀ W sv' tv', StIn W o sv' tv' → Calls Tryz.prog 9 #[.agg (stC o sv' tv')] W fun e w' => e = .returned (.tuple #[str B2, .int .i64 0]) ∧ Below W.heap.size W w') := Lib.hid fun W sv' tv' hst => by
        have := mbytes_any o sv' tv' W hst m1 m2 HOQ.out.1 HOQ.out.2
        rw [show mbS o = B2 by rw [hB2]; unfold mbS; rw [hok2]; rfl, show mbE o = 0 by unfold mbE; rw [hok2]; rfl] at this
        exact this
      have hrem : Int.tmod (cut : Int) (B1.length : Int) = (k : Int) := by rw [hk]; rfl
      have HKL := Lib.hid hkl
      have hlz : ((B1.length : Int) == 0) = false := by rw [beq_eq_false_iff_ne]; omega
      have hk0 : (0 : Int) ≤ k := by omega
      have hkb : (k : Int) ≤ B1.length := by omega
      have hsl : ∀ W, (Instr.slice 9 (str B1) none (some (.int .i64 (k : Int))) none).run Tryz.prog W = .ok (str (B1.take k)) W := fun W => by
        have := run_slice_string_h (P := Tryz.prog) (w := W) (t := 9) (s := ByteArray.mk B1.toArray) (ht := Tryz.underlying9) .i64 (k : Int) hk0 (by simp [ByteArray.size]; omega)
        rw [Int.toNat_natCast, ba_take] at this
        exact this
      have fsl : ∀ W, S0 W → (Instr.sliceAt 9 (str B1) none (some (.int .i64 (k : Int))) none).run Tryz.prog W = .ok (str (B1.take k)) W := fun W _ => hsl W
      have hrm : ∀ W, (binOp .rem 3 (.int .i64 (wrap64 (cut : Int))) (.int .i64 (B1.length : Int))).run Tryz.prog W = .ok (.int .i64 (k : Int)) W := fun W => by
        have hne : ¬ B1 = [] := fun hh => by rw [hh] at hlB; exact absurd hlB.1 (by simp)
        have hwc : wrap64 (cut : Int) = cut := IntWalk.wrap64_in _ (by have := HCUT.out; omega)
        rw [hwc]
        simp [binOp, Op.intDiv, hne, hrem, go_sem]
      have frem : ∀ W, S0 W → (binOp .rem 3 (.int .i64 (wrap64 (cut : Int))) (.int .i64 (B1.length : Int))).run Tryz.prog W = .ok (.int .i64 (k : Int)) W := fun W _ => hrm W
      clear hok1 hok2 hB1 hB2 hlB hk hkl hcutr hsl HFS HFO HAW HRT HRO HB1 HB2 HQ
      go_wp2_with ((with_reducible refine wpList_load_want ?qw 38 (.tmp 5) ?q2 (w.heap.size + 1) ?q3 38 cA _ (hKs _ (by assumption)) Tryz.underlying38 rfl hi35 ?_); (case q2 => rfl); (case q3 => rfl); (case qw => rfl); simp only [Act.put, List.setIfInBounds_toArray, List.set_cons_zero, List.set_cons_succ])
      refine (HOF.out _ hS8).mono ?_
      rintro e w9 ⟨so, ti, rfl, hso, _, hbq⟩
      have hS9 := HSK.out _ _ hS8 hbq
      have HQ := Lib.hid (HBY1.out w9 so ti hso)
      generalize stC s so ti = cO at *
      clear hso hbq hS8
      go_wp2_with fail
      refine HQ.out.mono ?_
      rintro e wa ⟨rfl, hbq⟩
      have hSa := HSK.out _ _ hS9 hbq
      clear hbq hS9 HQ
      go_wp2_with ((with_reducible refine wpList_load_want ?qw 38 (.tmp 6) ?q2 (w.heap.size + 2) ?q3 38 cE _ (hKo _ (by assumption)) Tryz.underlying38 rfl hj35 ?_); (case q2 => rfl); (case q3 => rfl); (case qw => rfl); simp only [Act.put, List.setIfInBounds_toArray, List.set_cons_zero, List.set_cons_succ])
      refine (HOO.out _ hSa).mono ?_
      rintro e wb ⟨so, ti, rfl, hso, _, hbq⟩
      have hSb := HSK.out _ _ hSa hbq
      have HQ := Lib.hid (HBY2.out wb so ti hso)
      generalize stC o so ti = cP at *
      clear hso hbq hSa
      go_wp2_with fail
      refine HQ.out.mono ?_
      rintro e wc ⟨rfl, hbq⟩
      have hSc := HSK.out _ _ hSb hbq
      clear hbq hSb HQ
      repeat' (first
        | go_values
        | go_skip
        | go_guarded
        | ((fail_if_success (with_reducible refine drawn_mark ?_))
           first
             | go_step
             | go_upon
             | go_back
             | (simp only [Int.not_lt, Int.not_le] at *; go_simp)
             | (go_values <;> (try go_simp))
             | (go_ite <;> go_prune <;> (try go_simp))
             | (split <;> (first | (rename_i hx; exact (hx _ rfl).elim) | go_prune))))
      have hSw := HSD.out _ hSc
      clear hSc
      refine Pl.wp_region_plan S0 [8, 12, 13] (Pl.Plan.seg 0 8 (.two 8 (Pl.Plan.seg 9 3 (.op 12 (.op 13 (Pl.Plan.seg 14 1 .done)))) 12 (.op 8 (Pl.Plan.seg 9 3 (.op 13 (Pl.Plan.seg 14 1 .done)))))) (by kernel_rfl) (by kernel_rfl) hSw ?_
      refine Pl.wpPlan_take (k := 0) 8 (by kernel_rfl) (by kernel_rfl) ?_
      simp only [List.take_succ_cons, List.take_zero, List.drop_succ_cons, List.drop_zero]
      repeat (first
        | go_big_quiet_skip
        | (go_big_quiet_want; refine quiet_bin .rem 3 3 (.tmp 64) (.tmp 66) (by rfl) (.int .i64 (k : Int)) _ _ (by rfl) (by rfl) (fun _ => rfl) frem ?_; simp only [Act.put, List.setIfInBounds_toArray, List.set_cons_zero, List.set_cons_succ]; go_big_quiet_on)
        | (go_big_quiet_want; refine quiet_sliceh 9 (.tmp 62) (.tmp 67) (by rfl) (str (B1.take k)) _ _ (by rfl) (by rfl) fsl ?_; simp only [Act.put, List.setIfInBounds_toArray, List.set_cons_zero, List.set_cons_succ]; go_big_quiet_on)
        | (go_big_quiet_want
           go_big_quiet_op
           first
             | go_big_quiet_on
             | (apply Exists.intro
                refine ⟨fun W hW => ?_, ?_⟩
                · first
                    | exact rfl
                    | exact ⟨rfl, rfl⟩
                    | (have e0 := fg0 W hW; have e1 := fg1 W hW; simp only [e0, e1, Result.andThen_ok]; done)
                    | (have e0 := fg0 W hW; have e1 := fg1 W hW; simp only [e0, e1, Result.andThen_ok]; first | exact ⟨trivial, rfl⟩ | exact rfl | exact ⟨rfl, rfl⟩)
                    | (skip)
                go_big_quiet_on)))
      refine wpQuiet_nil ?_
      refine ⟨?_, ?_⟩
      · refine Pl.efOp_any rfl rfl ?_
        go_wp2_with fail
        refine (HREAD.out _ hSw).mono ?_
        rintro e wx ⟨sx, tx, rfl, hst, hbq⟩
        obtain ⟨A3, c3, rfl⟩ := hst.snaps.form
        obtain ⟨A4, c4, rfl⟩ := hst.stale.form
        have hSx := HSK.out _ _ hSw hbq
        obtain ⟨cX, hcX⟩ : ∃ x, x = stC stZ (.slice A3 stZ.snaps.length c3) (.slice A4 stZ.stale.length c4) := ⟨_, rfl⟩
        rw [← hcX]
        have HCX := Lib.hid hcX
        have hi48 : (Tryz.prog.info? 48).map (·.size) = some cX.size := by rw [hcX, stC_size]; kernel_rfl
        have h1x : cX.all (·.oneCell') = true := by rw [hcX]; exact stC_one stZ A3 A4 _ _ _ _
        obtain ⟨X, hX⟩ : ∃ X, X = wx.heap.size := ⟨_, rfl⟩
        obtain ⟨wq, hwq⟩ : ∃ x, wx.alloc (.cells #[.int .i64 0, .int .i64 0, .int .i64 0, .int .i64 0, .int .i64 0, .bool false, .int .i64 0, .int .i64 0, .int .i64 0, .int .u64 0, .int .u64 0, .int .u64 0, .int .u64 0, .slice none 0 0, .int .i64 0, .int .i64 0, .int .i64 0, .int .i64 0, .int .i64 0, .int .i64 0, .int .i64 0, .int .i64 0, .int .i64 0, .slice none 0 0] 48) = x := ⟨_, rfl⟩
        have hSq : S0 wq := HSK.out _ _ hSx (by rw [← hwq]; exact keep_alloc (Below.refl _ _) _)
        have ZX : Blk wq X 48 #[.int .i64 0, .int .i64 0, .int .i64 0, .int .i64 0, .int .i64 0, .bool false, .int .i64 0, .int .i64 0, .int .i64 0, .int .u64 0, .int .u64 0, .int .u64 0, .int .u64 0, .slice none 0 0, .int .i64 0, .int .i64 0, .int .i64 0, .int .i64 0, .int .i64 0, .int .i64 0, .int .i64 0, .int .i64 0, .int .i64 0, .slice none 0 0] := by rw [← hwq, hX]; exact Blk.new _ _ _
        have hth : wq.there X 0 cX.size := ZX.there (by rw [hcX, stC_size]; exact Nat.le_refl 24)
        obtain ⟨wy, hwy⟩ : ∃ x, wq.setCells X 0 cX.toList = x := ⟨_, rfl⟩
        have KX : Blk wy X 48 cX := by rw [← hwy]; exact ZX.putAll cX (by rw [hcX]; rfl)
        have hSy : S0 wy := HSK.out _ _ hSx (by rw [← hwy, ← hwq]; exact below_sets _ _ (keep_alloc (Below.refl _ _) _) (by rw [hX]; exact Nat.le_refl _))
        have HWQ := Lib.hid (And.intro hwq (And.intro hwy hX))
        clear hbq hst hcX hwq hwy hX ZX hSw
        go_wp2_with fail
        refine ⟨rfl, hSx, ?_⟩
        refine Pl.wpPlan_take (k := 9) 3 (by kernel_rfl) (by kernel_rfl) ?_
        simp only [List.take_succ_cons, List.take_zero, List.drop_succ_cons, List.drop_zero]
        repeat (first
          | go_big_quiet_skip
          | (go_big_quiet_want
             go_big_quiet_op
             first
               | go_big_quiet_on
               | (apply Exists.intro
                  refine ⟨fun W hW => ?_, ?_⟩
                  · first
                      | exact rfl
                      | exact ⟨rfl, rfl⟩
                      | (simp only [Result.andThen_ok]; done)
                      | (simp only [Result.andThen_ok]; first | exact ⟨trivial, rfl⟩ | exact rfl | exact ⟨rfl, rfl⟩)
                      | (skip)
                  go_big_quiet_on)))
        refine wpQuiet_nil ?_
        refine Pl.efOp_any rfl rfl ?_
        go_wp2_with fail
        rw [HWQ.out.1, ← HWQ.out.2.2]
        refine ⟨rfl, hSq, ?_⟩
        refine Pl.efOp_any rfl rfl ?_
        go_wp2_with ((with_reducible refine wpList_store_mid ?a1 48 (.tmp 13) (.tmp 70) ?a2 X 0 cX ?a3 ?a4 hth hi48 h1x ?_); (case a1 => rfl); (case a2 => rfl); (case a3 => rfl); (case a4 => rfl); simp only [Act.put, List.setIfInBounds_toArray, List.set_cons_zero, List.set_cons_succ])
        rw [HWQ.out.2.1]
        refine ⟨rfl, hSy, ?_⟩
        refine Pl.wpPlan_take (k := 14) 1 (by kernel_rfl) (by kernel_rfl) ?_
        simp only [List.take_succ_cons, List.take_zero, List.drop_succ_cons, List.drop_zero]
        repeat (first
          | go_big_quiet_skip
          | (go_big_quiet_want
             go_big_quiet_op
             first
               | go_big_quiet_on
               | (apply Exists.intro
                  refine ⟨fun W hW => ?_, ?_⟩
                  · first
                      | exact rfl
                      | exact ⟨rfl, rfl⟩
                      | (simp only [Result.andThen_ok]; done)
                      | (simp only [Result.andThen_ok]; first | exact ⟨trivial, rfl⟩ | exact rfl | exact ⟨rfl, rfl⟩)
                      | (skip)
                  go_big_quiet_on)))
        refine wpQuiet_nil ?_
        simp only [Pl.wpPlan]
        clear HWQ hth hi48 h1x hSx hSq hrm frem fsl fS fO fg0 fg1
        have HX := Lib.hid (KX : Blk wy X 48 cX)
        have e23 : wy.cell? ⟨X, 23, none⟩ = some (.slice A4 0 c4) := by
          have := HX.out
          rw [HCX.out] at this
          exact this.at_ rfl
        have HSAME : Hid (Calls Tryz.prog 11 #[.agg cA, .agg cE] wy fun e w' => e = .returned (.bool (decide (s = o))) ∧ Below wy.heap.size wy w') := Lib.hid (by
          rw [HCA.out, HCE.out]
          exact msame_any s o _ _ _ _ wy (H.out.below (HBW.out _ hSy)) (GG.out.below (HBW.out _ hSy)) f1 f2)
        by_cases hso : s = o
        · have hBB : B1 = B2 := by rw [HB12.out.1, HB12.out.2, hso]
          rw [decide_eq_true hso] at HSAME
          subst hBB
          clear hso
          go_wp2_with (first | ((with_reducible refine wpList_load_want ?qw 38 (.tmp 5) ?q2 (w.heap.size + 1) ?q3 38 cA _ (hKs _ (by assumption)) Tryz.underlying38 rfl hi35 ?_); (case q2 => rfl); (case q3 => rfl); (case qw => rfl); simp only [Act.put, List.setIfInBounds_toArray, List.set_cons_zero, List.set_cons_succ]) | ((with_reducible refine wpList_load_want ?qw 38 (.tmp 6) ?q2 (w.heap.size + 2) ?q3 38 cE _ (hKo _ (by assumption)) Tryz.underlying38 rfl hj35 ?_); (case q2 => rfl); (case q3 => rfl); (case qw => rfl); simp only [Act.put, List.setIfInBounds_toArray, List.set_cons_zero, List.set_cons_succ]))
          refine HSAME.out.mono ?_
          rintro e wz ⟨rfl, hbz⟩
          have e23 : wz.cell? ⟨X, 23, none⟩ = some (.slice A4 0 c4) := by
            have := HX.out.below hbz HX.out.lt
            rw [HCX.out] at this
            exact this.at_ rfl
          have HDZ := Lib.hid (keep_below hbz (HBW.out _ hSy))
          clear hbz
          go_wp2_with fail
          go_ret
          exact ⟨rfl, HDZ.out⟩
        · have hBB : B1 ≠ B2 := fun hh => hso (HINJ.out hh)
          have hbe : (B1 == B2) = false := beq_eq_false_iff_ne.2 hBB
          rw [decide_eq_false hso] at HSAME
          clear hso
          go_wp2_with (first | ((with_reducible refine wpList_load_want ?qw 38 (.tmp 5) ?q2 (w.heap.size + 1) ?q3 38 cA _ (hKs _ (by assumption)) Tryz.underlying38 rfl hi35 ?_); (case q2 => rfl); (case q3 => rfl); (case qw => rfl); simp only [Act.put, List.setIfInBounds_toArray, List.set_cons_zero, List.set_cons_succ]) | ((with_reducible refine wpList_load_want ?qw 38 (.tmp 6) ?q2 (w.heap.size + 2) ?q3 38 cE _ (hKo _ (by assumption)) Tryz.underlying38 rfl hj35 ?_); (case q2 => rfl); (case q3 => rfl); (case qw => rfl); simp only [Act.put, List.setIfInBounds_toArray, List.set_cons_zero, List.set_cons_succ]))
          refine HSAME.out.mono ?_
          rintro e wz ⟨rfl, hbz⟩
          have e23 : wz.cell? ⟨X, 23, none⟩ = some (.slice A4 0 c4) := by
            have := HX.out.below hbz HX.out.lt
            rw [HCX.out] at this
            exact this.at_ rfl
          have HDZ := Lib.hid (keep_below hbz (HBW.out _ hSy))
          clear hbz
          go_wp2_with fail
          go_ret
          exact ⟨rfl, HDZ.out⟩
      · obtain ⟨X, hX⟩ : ∃ X, X = wc.heap.size := ⟨_, rfl⟩
        obtain ⟨wq, hwq⟩ : ∃ x, (wc.alloc (.cells #[.int .i64 0, .int .i64 0, .int .i64 0, .int .i64 0, .int .i64 0, .bool false, .int .i64 0, .int .i64 0, .int .i64 0, .int .u64 0, .int .u64 0, .int .u64 0, .int .u64 0, .slice none 0 0, .int .i64 0, .int .i64 0, .int .i64 0, .int .i64 0, .int .i64 0, .int .i64 0, .int .i64 0, .int .i64 0, .int .i64 0, .slice none 0 0] 48)).drew = x := ⟨_, rfl⟩
        have hSq : S0 wq := HSK.out _ _ hSw (by rw [← hwq]; exact (show Below wc.drew.heap.size wc.drew (wc.drew.alloc (.cells #[.int .i64 0, .int .i64 0, .int .i64 0, .int .i64 0, .int .i64 0, .bool false, .int .i64 0, .int .i64 0, .int .i64 0, .int .u64 0, .int .u64 0, .int .u64 0, .int .u64 0, .slice none 0 0, .int .i64 0, .int .i64 0, .int .i64 0, .int .i64 0, .int .i64 0, .int .i64 0, .int .i64 0, .int .i64 0, .int .i64 0, .slice none 0 0] 48)) from keep_alloc (Below.refl _ _) _))
        have ZX : Blk wq X 48 #[.int .i64 0, .int .i64 0, .int .i64 0, .int .i64 0, .int .i64 0, .bool false, .int .i64 0, .int .i64 0, .int .i64 0, .int .u64 0, .int .u64 0, .int .u64 0, .int .u64 0, .slice none 0 0, .int .i64 0, .int .i64 0, .int .i64 0, .int .i64 0, .int .i64 0, .int .i64 0, .int .i64 0, .int .i64 0, .int .i64 0, .slice none 0 0] := by rw [← hwq, hX]; exact Blk.new wc _ _
        have HXB : Hid (w1.heap.size ≤ X) := Lib.hid (by rw [hX]; exact (HSB.out _ hSw).size)
        have HWQ := Lib.hid (And.intro hwq hX)
        have HZX := Lib.hid ZX
        clear hwq hX ZX hSw
        refine Pl.efOp_any rfl rfl ?_
        go_wp2_with fail
        rw [HWQ.out.1, ← HWQ.out.2]
        refine ⟨rfl, hSq, ?_⟩
        refine Pl.efOp_any rfl rfl ?_
        go_wp2_with fail
        refine (HREAD.out _ hSq).mono ?_
        rintro e wx ⟨sx, tx, rfl, hst, hbq⟩
        obtain ⟨A3, c3, rfl⟩ := hst.snaps.form
        obtain ⟨A4, c4, rfl⟩ := hst.stale.form
        have hSx := HSK.out _ _ hSq hbq
        have ZX := HZX.out.below hbq HZX.out.lt
        obtain ⟨cX, hcX⟩ : ∃ x, x = stC stZ (.slice A3 stZ.snaps.length c3) (.slice A4 stZ.stale.length c4) := ⟨_, rfl⟩
        rw [← hcX]
        have HCX := Lib.hid hcX
        have hi48 : (Tryz.prog.info? 48).map (·.size) = some cX.size := by rw [hcX, stC_size]; kernel_rfl
        have h1x : cX.all (·.oneCell') = true := by rw [hcX]; exact stC_one stZ A3 A4 _ _ _ _
        have hth : wx.there X 0 cX.size := ZX.there (by rw [hcX, stC_size]; exact Nat.le_refl 24)
        obtain ⟨wy, hwy⟩ : ∃ x, wx.setCells X 0 cX.toList = x := ⟨_, rfl⟩
        have KX : Blk wy X 48 cX := by rw [← hwy]; exact ZX.putAll cX (by rw [hcX]; rfl)
        have hSy : S0 wy := HST.out _ _ hSx (by rw [← hwy]; exact below_sets _ _ (HSB.out _ hSx) HXB.out)
        have HWY := Lib.hid hwy
        clear hbq hst hcX hwy ZX HZX HWQ
        go_wp2_with fail
        refine ⟨rfl, hSx, ?_⟩
        refine Pl.wpPlan_take (k := 9) 3 (by kernel_rfl) (by kernel_rfl) ?_
        simp only [List.take_succ_cons, List.take_zero, List.drop_succ_cons, List.drop_zero]
        repeat (first
          | go_big_quiet_skip
          | (go_big_quiet_want
             go_big_quiet_op
             first
               | go_big_quiet_on
               | (apply Exists.intro
                  refine ⟨fun W hW => ?_, ?_⟩
                  · first
                      | exact rfl
                      | exact ⟨rfl, rfl⟩
                      | (simp only [Result.andThen_ok]; done)
                      | (simp only [Result.andThen_ok]; first | exact ⟨trivial, rfl⟩ | exact rfl | exact ⟨rfl, rfl⟩)
                      | (skip)
                  go_big_quiet_on)))
        refine wpQuiet_nil ?_
        refine Pl.efOp_any rfl rfl ?_
        go_wp2_with ((with_reducible refine wpList_store_mid ?a1 48 (.tmp 13) (.tmp 70) ?a2 X 0 cX ?a3 ?a4 hth hi48 h1x ?_); (case a1 => rfl); (case a2 => rfl); (case a3 => rfl); (case a4 => rfl); simp only [Act.put, List.setIfInBounds_toArray, List.set_cons_zero, List.set_cons_succ])
        rw [HWY.out]
        refine ⟨rfl, hSy, ?_⟩
        refine Pl.wpPlan_take (k := 14) 1 (by kernel_rfl) (by kernel_rfl) ?_
        simp only [List.take_succ_cons, List.take_zero, List.drop_succ_cons, List.drop_zero]
        repeat (first
          | go_big_quiet_skip
          | (go_big_quiet_want
             go_big_quiet_op
             first
               | go_big_quiet_on
               | (apply Exists.intro
                  refine ⟨fun W hW => ?_, ?_⟩
                  · first
                      | exact rfl
                      | exact ⟨rfl, rfl⟩
                      | (simp only [Result.andThen_ok]; done)
                      | (simp only [Result.andThen_ok]; first | exact ⟨trivial, rfl⟩ | exact rfl | exact ⟨rfl, rfl⟩)
                      | (skip)
                  go_big_quiet_on)))
        refine wpQuiet_nil ?_
        simp only [Pl.wpPlan]
        clear HWY hth hi48 h1x hSx hSq hrm frem fsl fS fO fg0 fg1
        have HX := Lib.hid (KX : Blk wy X 48 cX)
        have e23 : wy.cell? ⟨X, 23, none⟩ = some (.slice A4 0 c4) := by
          have := HX.out
          rw [HCX.out] at this
          exact this.at_ rfl
        have HSAME : Hid (Calls Tryz.prog 11 #[.agg cA, .agg cE] wy fun e w' => e = .returned (.bool (decide (s = o))) ∧ Below wy.heap.size wy w') := Lib.hid (by
          rw [HCA.out, HCE.out]
          exact msame_any s o _ _ _ _ wy (H.out.below (HBW.out _ hSy)) (GG.out.below (HBW.out _ hSy)) f1 f2)
        by_cases hso : s = o
        · have hBB : B1 = B2 := by rw [HB12.out.1, HB12.out.2, hso]
          rw [decide_eq_true hso] at HSAME
          subst hBB
          clear hso
          go_wp2_with (first | ((with_reducible refine wpList_load_want ?qw 38 (.tmp 5) ?q2 (w.heap.size + 1) ?q3 38 cA _ (hKs _ (by assumption)) Tryz.underlying38 rfl hi35 ?_); (case q2 => rfl); (case q3 => rfl); (case qw => rfl); simp only [Act.put, List.setIfInBounds_toArray, List.set_cons_zero, List.set_cons_succ]) | ((with_reducible refine wpList_load_want ?qw 38 (.tmp 6) ?q2 (w.heap.size + 2) ?q3 38 cE _ (hKo _ (by assumption)) Tryz.underlying38 rfl hj35 ?_); (case q2 => rfl); (case q3 => rfl); (case qw => rfl); simp only [Act.put, List.setIfInBounds_toArray, List.set_cons_zero, List.set_cons_succ]))
          refine HSAME.out.mono ?_
          rintro e wz ⟨rfl, hbz⟩
          have e23 : wz.cell? ⟨X, 23, none⟩ = some (.slice A4 0 c4) := by
            have := HX.out.below hbz HX.out.lt
            rw [HCX.out] at this
            exact this.at_ rfl
          have HDZ := Lib.hid (keep_below hbz (HBW.out _ hSy))
          clear hbz
          go_wp2_with fail
          go_ret
          exact ⟨rfl, HDZ.out⟩
        · have hBB : B1 ≠ B2 := fun hh => hso (HINJ.out hh)
          have hbe : (B1 == B2) = false := beq_eq_false_iff_ne.2 hBB
          rw [decide_eq_false hso] at HSAME
          clear hso
          go_wp2_with (first | ((with_reducible refine wpList_load_want ?qw 38 (.tmp 5) ?q2 (w.heap.size + 1) ?q3 38 cA _ (hKs _ (by assumption)) Tryz.underlying38 rfl hi35 ?_); (case q2 => rfl); (case q3 => rfl); (case qw => rfl); simp only [Act.put, List.setIfInBounds_toArray, List.set_cons_zero, List.set_cons_succ]) | ((with_reducible refine wpList_load_want ?qw 38 (.tmp 6) ?q2 (w.heap.size + 2) ?q3 38 cE _ (hKo _ (by assumption)) Tryz.underlying38 rfl hj35 ?_); (case q2 => rfl); (case q3 => rfl); (case qw => rfl); simp only [Act.put, List.setIfInBounds_toArray, List.set_cons_zero, List.set_cons_succ]))
          refine HSAME.out.mono ?_
          rintro e wz ⟨rfl, hbz⟩
          have e23 : wz.cell? ⟨X, 23, none⟩ = some (.slice A4 0 c4) := by
            have := HX.out.below hbz HX.out.lt
            rw [HCX.out] at this
            exact this.at_ rfl
          have HDZ := Lib.hid (keep_below hbz (HBW.out _ hSy))
          clear hbz
          go_wp2_with fail
          go_ret
          exact ⟨rfl, HDZ.out⟩
end Go.Proofs.YtidmbibpoldgcaaGreatDoor
