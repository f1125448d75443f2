/-
  Layer 17: Read.
-/
import Derived.Test.YtidmbibpoldgcaaGreatDoorJ16
import Derived.Test.YtidmbibpoldgcaaGreatDoorJ20
namespace Go.Proofs.YtidmbibpoldgcaaGreatDoor
set_option linter.unusedVariables false
set_option linter.unusedSimpArgs false
open Go.RowKit

set_option maxRecDepth 100000 in
set_option maxHeartbeats 4000000 in
theorem read_any (A : Option Addr) (m c : Nat) (gs : List (Int × Int)) (secs : Int) (l : List UInt8) {w : World} (hg : GeoAt w A m gs) (hl : l.length ≤ 140737488351232) :
    Calls Tryz.prog 10 #[.agg #[.slice A m c, .int .i64 secs], str l] w fun x w' => ∃ sv tv, x = .returned (.tuple #[.agg (stC (rdS gs secs l).1 sv tv), .int .i64 (rdS gs secs l).2]) ∧ StIn w' (rdS gs secs l).1 sv tv ∧ Below w.heap.size w w' := by
  obtain ⟨w2, hw2⟩ : ∃ x, (w.alloc (.cells #[.slice A m c, .int .i64 secs] 24)).alloc (.cells #[.int .i64 0, .int .i64 0, .int .i64 0, .int .i64 0, .int .i64 0, .bool false, .int .i64 0, .int .i64 0, .int .i64 0, .int .u64 0, .int .u64 0, .int .u64 0, .int .u64 0, .slice none 0 0, .int .i64 0, .int .i64 0, .int .i64 0, .int .i64 0, .int .i64 0, .int .i64 0, .int .i64 0, .int .i64 0, .int .i64 0, .slice none 0 0] 48) = x := ⟨_, rfl⟩
  have G2 : Blk w2 w.heap.size 24 #[.slice A m c, .int .i64 secs] := by rw [← hw2]; exact (Blk.new _ _ _).alloc _
  have Z2 : Blk w2 (w.heap.size + 1) 48 #[.int .i64 0, .int .i64 0, .int .i64 0, .int .i64 0, .int .i64 0, .bool false, .int .i64 0, .int .i64 0, .int .i64 0, .int .u64 0, .int .u64 0, .int .u64 0, .int .u64 0, .slice none 0 0, .int .i64 0, .int .i64 0, .int .i64 0, .int .i64 0, .int .i64 0, .int .i64 0, .int .i64 0, .int .i64 0, .int .i64 0, .slice none 0 0] := by rw [← hw2]; exact Blk.new2 w _ _ _
  have d2 : Below w.heap.size w w2 := by rw [← hw2]; exact keep_alloc (keep_alloc (Below.refl _ _) _) _
  have s2 : w2.heap.size = w.heap.size + 2 := by rw [← hw2]; simp
  have HG2 := Lib.hid G2
  have HZ2 := Lib.hid Z2
  have HD2 := Lib.hid d2
  have HS2 := Lib.hid s2
  have HG := Lib.hid hg
  have HW2 := Lib.hid hw2
  clear G2 Z2 d2 s2 hg hw2
  obtain ⟨n1, q1, p1, e1, hK, CK⟩ := k_call l 0 0
  obtain ⟨c1, p2, e2, hC, CC, hc0, hc1⟩ := c_call l 100 (by decide) p1 e1
  have HK := Lib.hid hK
  have HC := Lib.hid hC
  have HCK := Lib.hid CK
  have HCC := Lib.hid CC
  obtain ⟨N1, rfl⟩ : ∃ N : Nat, c1 = (N : Int) := ⟨c1.toNat, (Int.toNat_of_nonneg hc0).symm⟩
  clear hK hC CK CC hc0
  go_enter Tryz.func10, Tryz.ntmps10
  go_wp2_with fail
  rw [HW2.out]
  clear HW2
  refine (new_any l w2 hl).mono ?_
  rintro x w3 ⟨rfl, hR3, hb3⟩
  rw [HS2.out] at hR3 ⊢
  have hs3 : w.heap.size + 3 ≤ w3.heap.size := hR3.lt
  obtain ⟨w4, hw4⟩ : ∃ x, w3.alloc (.cells #[.pointer (some ⟨w.heap.size + 2, 0, none⟩), .int .i64 0] 86) = x := ⟨_, rfl⟩
  obtain ⟨r, hr⟩ : ∃ r, r = w3.heap.size := ⟨_, rfl⟩
  have b34 : Below w3.heap.size w3 w4 := by rw [← hw4]; exact keep_alloc (Below.refl _ _) _
  have R4 : RdrAt w4 r (w.heap.size + 2) l 0 0 := ⟨by rw [← hw4, hr]; exact Blk.new _ _ _, hR3.keep b34 hR3.lt, by omega⟩
  have G4 := (HG2.out.below hb3 HG2.out.lt).below b34 (HG2.out.below hb3 HG2.out.lt).lt
  have Z4 := (HZ2.out.below hb3 HZ2.out.lt).below b34 (HZ2.out.below hb3 HZ2.out.lt).lt
  have D4 : Below w.heap.size w w4 := keep_below b34 (keep_below hb3 HD2.out)
  have HR4 := Lib.hid R4
  have HG4 := Lib.hid G4
  have HZ4 := Lib.hid Z4
  have HD4 := Lib.hid D4
  have HR := Lib.hid (And.intro hr hs3)
  have HW4 := Lib.hid hw4
  clear R4 G4 Z4 D4 hr hs3 hw4 hR3 hb3 b34 HG2 HZ2 HD2
  go_wp2_with fail
  rw [HW4.out, ← HR.out.1]
  refine (HCK.out w4 r (w.heap.size + 2) HR4.out).mono ?_
  rintro x w5 ⟨rfl, hR5, hO5⟩
  have hne : ∀ i, i ≤ w.heap.size + 1 → ¬ (i = r ∨ i = w.heap.size + 2) := fun i hi => by have := HR.out; omega
  obtain ⟨sb, hsb⟩ : ∃ sb, sb = w5.heap.size := ⟨_, rfl⟩
  obtain ⟨cO, hcO⟩ : ∃ x, x = stC ⟨n1, q1, scanZ, [], []⟩ nilV nilV := ⟨_, rfl⟩
  have hi48 : (Tryz.prog.info? 48).map (·.size) = some cO.size := by rw [hcO, stC_size]; kernel_rfl
  have h1c : cO.all (·.oneCell') = true := by rw [hcO]; exact stC_one _ none none 0 0 0 0
  have hib : ∀ W, (Instr.build 48 #[(0, .agg #[.int .i64 n1, .int .i64 q1.ag, .int .i64 q1.aa, .int .i64 q1.bg, .int .i64 q1.ba, .bool q1.two, .int .i64 q1.size, .int .i64 q1.level, .int .i64 q1.birth, .int .u64 q1.s0, .int .u64 q1.s1, .int .u64 q1.s2, .int .u64 q1.s3])]).run Tryz.prog W = .ok (.agg cO) W := by rw [hcO]; exact build_st0 n1 q1
  have ZN : Blk (w5.alloc (.cells #[.int .i64 0, .int .i64 0, .int .i64 0, .int .i64 0, .int .i64 0, .bool false, .int .i64 0, .int .i64 0, .int .i64 0, .int .u64 0, .int .u64 0, .int .u64 0, .int .u64 0, .slice none 0 0, .int .i64 0, .int .i64 0, .int .i64 0, .int .i64 0, .int .i64 0, .int .i64 0, .int .i64 0, .int .i64 0, .int .i64 0, .slice none 0 0] 48)) sb 48 #[.int .i64 0, .int .i64 0, .int .i64 0, .int .i64 0, .int .i64 0, .bool false, .int .i64 0, .int .i64 0, .int .i64 0, .int .u64 0, .int .u64 0, .int .u64 0, .int .u64 0, .slice none 0 0, .int .i64 0, .int .i64 0, .int .i64 0, .int .i64 0, .int .i64 0, .int .i64 0, .int .i64 0, .int .i64 0, .int .i64 0, .slice none 0 0] := by rw [hsb]; exact Blk.new _ _ _
  have hth : (w5.alloc (.cells #[.int .i64 0, .int .i64 0, .int .i64 0, .int .i64 0, .int .i64 0, .bool false, .int .i64 0, .int .i64 0, .int .i64 0, .int .u64 0, .int .u64 0, .int .u64 0, .int .u64 0, .slice none 0 0, .int .i64 0, .int .i64 0, .int .i64 0, .int .i64 0, .int .i64 0, .int .i64 0, .int .i64 0, .int .i64 0, .int .i64 0, .slice none 0 0] 48)).there w5.heap.size 0 cO.size := by rw [← hsb]; exact ZN.there (by rw [hcO]; exact Nat.le_refl 24)
  obtain ⟨w6, hw6⟩ : ∃ x, (w5.alloc (.cells #[.int .i64 0, .int .i64 0, .int .i64 0, .int .i64 0, .int .i64 0, .bool false, .int .i64 0, .int .i64 0, .int .i64 0, .int .u64 0, .int .u64 0, .int .u64 0, .int .u64 0, .slice none 0 0, .int .i64 0, .int .i64 0, .int .i64 0, .int .i64 0, .int .i64 0, .int .i64 0, .int .i64 0, .int .i64 0, .int .i64 0, .slice none 0 0] 48)).setCells sb 0 cO.toList = x := ⟨_, rfl⟩
  have hN : RNums w.heap.size w.heap.size (w.heap.size + 1) r (w.heap.size + 2) sb := ⟨rfl, rfl, rfl, by have := HR.out; omega, by rw [hsb]; exact hR5.own.lt⟩
  have k6 : ∀ i, i < sb → w6.heap[i]? = w5.heap[i]? := fun i hi => by rw [← hw6]; exact (sets_far _ _ _ _ trivial (by omega)).trans (Below.heap_alloc w5 _ i (by omega))
  have S6 : Blk w6 sb 48 cO := by rw [← hw6]; exact ZN.putAll cO (by rw [hcO]; rfl)
  have L6 : RLoc w6 w.heap.size (w.heap.size + 1) r (w.heap.size + 2) sb l #[.slice A m c, .int .i64 secs] cO p1 e1 :=
    ⟨(k6 _ (by have := hN.y4; have := hN.y5; omega)).trans (blk_only HG4.out hO5 (hne _ (by omega))), (k6 _ (by have := hN.y4; have := hN.y5; omega)).trans (blk_only HZ4.out hO5 (hne _ (by omega))), S6,
      hR5.same (k6 _ hN.y5) (k6 _ (by have := hN.y4; have := hN.y5; omega))⟩
  have D6 : Below w.heap.size w w6 := by
    have d5 : Below w.heap.size w w5 := HD4.out.trans (hO5.below HD4.out.size (fun i hi => by have := HR.out; omega))
    rw [← hw6]
    exact below_sets _ _ (keep_alloc d5 _) (by have := d5.size; omega)
  have s6 : w6.heap.size = sb + 1 := by rw [← hw6, sets_size, World.size_alloc, hsb]
  have HL6 := Lib.hid L6
  have HD6 := Lib.hid D6
  have HN := Lib.hid hN
  have HW6 := Lib.hid hw6
  have HSB := Lib.hid hsb
  have HCO := Lib.hid hcO
  have HS6 := Lib.hid s6
  clear hsb hR5 hO5 hne k6 S6 L6 D6 hN ZN hw6 hcO s6 HG4 HZ4 HD4 HR4 HW4 HCK
  go_wp2_with (first | ((with_reducible refine wpList_build_want ?bq 48 #[(0, .tmp 15)] ?r2 #[(0, .agg #[.int .i64 n1, .int .i64 q1.ag, .int .i64 q1.aa, .int .i64 q1.bg, .int .i64 q1.ba, .bool q1.two, .int .i64 q1.size, .int .i64 q1.level, .int .i64 q1.birth, .int .u64 q1.s0, .int .u64 q1.s1, .int .u64 q1.s2, .int .u64 q1.s3])] ?r3 (.agg cO) (hib _) ?_); (case r2 => rfl); (case r3 => simp [Act.eval, Act.put]); (case bq => rfl); simp only [Act.put, List.setIfInBounds_toArray, List.set_cons_zero, List.set_cons_succ]) | ((with_reducible refine wpList_store_mid ?a1 48 (.tmp 7) (.tmp 16) ?a2 w5.heap.size 0 cO ?a3 ?a4 hth hi48 h1c ?_); (case a2 => rfl); (case a3 => rfl); (case a4 => rfl); (case a1 => rfl); simp only [Act.put, List.setIfInBounds_toArray, List.set_cons_zero, List.set_cons_succ]; rw [← HSB.out, HW6.out]))
  refine (HCC.out w6 r (w.heap.size + 2) HL6.out.rd).mono ?_
  rintro x w7 ⟨rfl, hR7, hO7⟩
  have HL7 := Lib.hid (HL6.out.only HN.out hR7 hO7)
  have HD7 : Hid (Below w.heap.size w w7) := Lib.hid (HD6.out.trans (only_low hO7 HN.out HD6.out.size))
  have HS7 : Hid (sb + 1 ≤ w7.heap.size) := Lib.hid (by have := hO7.size; have := HS6.out; omega)
  clear hR7 hO7 HL6 HD6 HS6 HCC hth h1c hib HW6
  clear HSB
  go_wp2_with fail
  obtain ⟨i0, hi, hz0, hz1, hz2⟩ := info_parts Tryz.infoMSnap
  obtain ⟨j0, hj, hy0, hy1, hy2⟩ := info_parts Tryz.infoRange
  have hC7 : Hid (RLoc w7 w.heap.size (w.heap.size + 1) r (w.heap.size + 2) sb l #[.slice A m c, .int .i64 secs] (stC ⟨n1, q1, scanZ, [], []⟩ nilV nilV) p2 e2) := Lib.hid (by rw [← HCO.out]; exact HL7.out)
  clear HL7
  go_loopw [19] (fun t wr => ∃ (k : Nat) (sv : Value) (p : Nat) (e : Int), k ≤ N1 ∧ t = .int .i64 k ∧ Below w.heap.size w wr ∧ RLoc wr w.heap.size (w.heap.size + 1) r (w.heap.size + 2) sb l #[.slice A m c, .int .i64 secs] (stC ⟨n1, q1, scanZ, [], []⟩ sv nilV) p e ∧
      (itR (rSn l) k (p2, e2)).2 = (p, e) ∧ wr.ownsRow (sb + 1) 75 15 sv k (snapC (itR (rSn l) k (p2, e2)).1) ∧ sb + 1 ≤ wr.heap.size) (fun t _ => N1 - (RowKit.intOf t).toNat)
  case atStart => exact ⟨0, nilV, p2, e2, Nat.zero_le _, rfl, HD7.out, hC7.out, rfl, World.ownsRow_nil _ _ _ _, HS7.out⟩
  case round =>
    obtain ⟨k, sv, p, e, hk, rfl, hd, hloc, hit, hrow, hsz⟩ := hrel
    have HD := Lib.hid hd
    have HL := Lib.hid hloc
    have HIT := Lib.hid hit
    have HROW := Lib.hid hrow
    have HSZ := Lib.hid hsz
    clear hd hloc hit hrow hsz HD7 hC7 HS7
    by_cases hlt : k < N1
    · obtain ⟨a1, x1, y1, a2, x2, y2, n2, q2, x3, y3, hS, C1, C2, C3⟩ := sn_calls l p e
      have HSN := Lib.hid hS
      have HC1 := Lib.hid C1
      have HC2 := Lib.hid C2
      have HC3 := Lib.hid C3
      have hdc : decide (k < N1) = true := decide_eq_true hlt
      have HLT := Lib.hid hlt
      clear hS C1 C2 C3
      repeat' (first
        | go_values
        | go_skip
        | go_guarded
        | ((fail_if_success (with_reducible refine drawn_mark ?_))
           first
             | go_step
             | go_upon
             | go_back
             | (simp only [Int.not_lt, Int.not_le] at *; go_simp)
             | (go_values <;> (try go_simp))
             | (go_ite <;> go_prune <;> (try go_simp))
             | (split <;> (first | (rename_i hx; exact (hx _ rfl).elim) | go_prune))))
      obtain ⟨S0, hS0⟩ : ∃ S0 : World → Prop, S0 = fun W => W.heap[sb]? = wr.heap[sb]? := ⟨_, rfl⟩
      have f16 : ∀ W, S0 W → W.cell? ⟨sb, 13, none⟩ = some sv := fun W hW => by rw [hS0] at hW; exact (show Blk W _ _ _ from hW.trans HL.out.st).at_ rfl
      have hSw : S0 wr.drew := by rw [hS0]; rfl
      have hS2 : ∀ W, W.heap[sb]? = wr.heap[sb]? → S0 W := fun W a => by rw [hS0]; exact a
      have HSS := Lib.hid hS2
      clear hS0 hS2
      refine wp_region_eff S0 [3, 5, 7, 8, 9, 10] 12 (by kernel_rfl) (by kernel_rfl) (by kernel_rfl) hSw ?_
      simp only [List.take_succ_cons, List.take_zero, List.drop_succ_cons, List.drop_zero]
      refine wpLexE_take 3 (by kernel_rfl) (by kernel_rfl) ?_
      simp only [List.take_succ_cons, List.take_zero, List.drop_succ_cons, List.drop_zero]
      repeat (first
        | go_big_quiet_skip
        | (go_big_quiet_want
           go_big_quiet_op
           first
             | go_big_quiet_on
             | (apply Exists.intro
                refine ⟨fun W hW => ?_, ?_⟩
                · first
                    | exact rfl
                    | exact ⟨rfl, rfl⟩
                    | (have e0 := f16 W hW; simp only [e0, Result.andThen_ok]; done)
                    | (have e0 := f16 W hW; simp only [e0, Result.andThen_ok]; first | exact ⟨trivial, rfl⟩ | exact rfl | exact ⟨rfl, rfl⟩)
                    | (skip)
                go_big_quiet_on)))
      refine wpQuiet_nil ?_
      show wpLexE _ _ _ _ _ _ _ _ _
      refine wpLexE_eff (by kernel_rfl) rfl ?_
      go_wp2_with fail
      refine (HC1.out wr.drew r (w.heap.size + 2) (HL.out.rd.same rfl rfl)).mono ?_
      rintro x w8 ⟨rfl, hR8, hO8⟩
      have hO8 : Only (fun i => i = r ∨ i = w.heap.size + 2) wr w8 := ((Only.refl _ wr).drew).trans hO8 (fun i hi => .inl hi)
      have hS8 : S0 w8 := HSS.out _ (only_sb hO8 HN.out HL.out.st.lt)
      have HR8 := Lib.hid hR8
      have HO8 := Lib.hid hO8
      clear hR8 hO8
      go_wp2_with fail
      refine ⟨rfl, hS8, ?_⟩
      refine wpLexE_take 1 (by kernel_rfl) (by kernel_rfl) ?_
      simp only [List.take_succ_cons, List.take_zero, List.drop_succ_cons, List.drop_zero]
      repeat (first
        | go_big_quiet_skip
        | (go_big_quiet_want
           go_big_quiet_op
           first
             | go_big_quiet_on
             | (apply Exists.intro
                refine ⟨fun W hW => ?_, ?_⟩
                · first
                    | exact rfl
                    | exact ⟨rfl, rfl⟩
                    | (have e0 := f16 W hW; simp only [e0, Result.andThen_ok]; done)
                    | (have e0 := f16 W hW; simp only [e0, Result.andThen_ok]; first | exact ⟨trivial, rfl⟩ | exact rfl | exact ⟨rfl, rfl⟩)
                    | (skip)
                go_big_quiet_on)))
      refine wpQuiet_nil ?_
      show wpLexE _ _ _ _ _ _ _ _ _
      refine wpLexE_eff (by kernel_rfl) rfl ?_
      go_wp2_with fail
      refine (HC2.out w8 r (w.heap.size + 2) HR8.out).mono ?_
      rintro x w9 ⟨rfl, hR9, hO9⟩
      have hO9 := HO8.out.trans hO9 (fun i hi => .inl hi)
      have hS9 : S0 w9 := HSS.out _ (only_sb hO9 HN.out HL.out.st.lt)
      have HR9 := Lib.hid hR9
      have HO9 := Lib.hid hO9
      clear hR9 hO9 hS8
      go_wp2_with fail
      refine ⟨rfl, hS9, ?_⟩
      refine wpLexE_take 1 (by kernel_rfl) (by kernel_rfl) ?_
      simp only [List.take_succ_cons, List.take_zero, List.drop_succ_cons, List.drop_zero]
      repeat (first
        | go_big_quiet_skip
        | (go_big_quiet_want
           go_big_quiet_op
           first
             | go_big_quiet_on
             | (apply Exists.intro
                refine ⟨fun W hW => ?_, ?_⟩
                · first
                    | exact rfl
                    | exact ⟨rfl, rfl⟩
                    | (have e0 := f16 W hW; simp only [e0, Result.andThen_ok]; done)
                    | (have e0 := f16 W hW; simp only [e0, Result.andThen_ok]; first | exact ⟨trivial, rfl⟩ | exact rfl | exact ⟨rfl, rfl⟩)
                    | (skip)
                go_big_quiet_on)))
      refine wpQuiet_nil ?_
      show wpLexE _ _ _ _ _ _ _ _ _
      refine wpLexE_eff (by kernel_rfl) rfl ?_
      go_wp2_with fail
      refine (HC3.out w9 r (w.heap.size + 2) HR9.out).mono ?_
      rintro x wa ⟨rfl, hRa, hOa⟩
      have hOa := HO9.out.trans hOa (fun i hi => .inl hi)
      have hSa : S0 wa := HSS.out _ (only_sb hOa HN.out HL.out.st.lt)
      have HRa := Lib.hid hRa
      have HOa := Lib.hid hOa
      clear hRa hOa hS9
      go_wp2_with fail
      refine ⟨rfl, hSa, ?_⟩
      refine wpLexE_eff (by kernel_rfl) rfl ?_
      go_wp2_with fail
      refine ⟨rfl, hSa, ?_⟩
      refine wpLexE_eff (by kernel_rfl) rfl ?_
      go_wp2_with fail
      obtain ⟨xs, hxs⟩ : ∃ xs : SnapA, xs = ⟨a1, a2, n2, q2⟩ := ⟨_, rfl⟩
      have HXS := Lib.hid hxs
      clear hxs
      obtain ⟨wb, hwb⟩ : ∃ y, wa.alloc (.cells #[.int .i64 a1, .int .i64 a2, .int .i64 n2, .int .i64 q2.ag, .int .i64 q2.aa, .int .i64 q2.bg, .int .i64 q2.ba, .bool q2.two, .int .i64 q2.size, .int .i64 q2.level, .int .i64 q2.birth, .int .u64 q2.s0, .int .u64 q2.s1, .int .u64 q2.s2, .int .u64 q2.s3] 75) = y := ⟨_, rfl⟩
      have Xb : Blk wb wa.heap.size 75 (snapL xs).toArray := by rw [← hwb, HXS.out]; exact Blk.new _ _ _
      have hab : ∀ i, i < wa.heap.size → wb.heap[i]? = wa.heap[i]? := fun i hi => by rw [← hwb]; exact Below.heap_alloc wa _ i hi
      have hsa : wr.heap.size ≤ wa.heap.size := HOa.out.size
      have hsb' : wb.heap.size = wa.heap.size + 1 := by rw [← hwb]; simp
      rw [hwb]
      have hSb : S0 wb := HSS.out _ ((hab _ (by have := HL.out.st.lt; omega)).trans (only_sb HOa.out HN.out HL.out.st.lt))
      refine ⟨rfl, hSb, ?_⟩
      have hrowb : wb.ownsRow (sb + 1) 75 15 sv k (snapC (itR (rSn l) k (p2, e2)).1) :=
        ownsRow_same (row_only HROW.out HOa.out HN.out (by omega)) (fun y hy => hab y (by have := (HROW.out.lt y hy).2; omega))
      have HOb : Hid (Only (fun i => i = r ∨ i = w.heap.size + 2) wr wb) := Lib.hid (by rw [← hwb]; exact HOa.out.alloc _)
      refine wpLexE_eff (by kernel_rfl) rfl ?_
      refine wpList_append_own_at _ rfl (.tmp 22) (.tmp 30) 43 rfl (sb + 1) 75 i0 _ 15 120 Tryz.underlying43 hi hz0 hz1 hz2 rfl (by decide) _ _ _ rfl hrowb ⟨wa.heap.size, 0, none⟩ 1 1 (snapL xs) rfl rfl ?c1 ?c2 (by unfold maxLen; omega) (by omega) (by have := HSZ.out; omega) ?_
      case c1 =>
        intro j u hj
        rw [Addr.add_mid, Nat.zero_add]
        exact Xb.at_ (by simpa using hj)
      case c2 => intro u hu; simp only [snapL, List.mem_cons, List.not_mem_nil, or_false] at hu; rcases hu with rfl | rfl | rfl | rfl | rfl | rfl | rfl | rfl | rfl | rfl | rfl | rfl | rfl | rfl | rfl <;> rfl
      intro v' wc hown' hgrow hnil hloc
      obtain ⟨gn, cap8, rfl, _, _⟩ := hown'.form (by omega)
      have hnb : ∀ y, sv.ownBlock = some y → sb + 1 ≤ y := fun y e => (HROW.out.lt y e).1
      have gc : ∀ i, i ≤ sb → wc.heap[i]? = wb.heap[i]? := fun i hi => hgrow.block i (by have := HSZ.out; omega) (fun e => by have := hnb i e.symm; omega)
      have hszc : sb + 1 ≤ wc.heap.size := by have := hgrow.size; have := HSZ.out; omega
      have hSc : S0 wc := HSS.out _ ((gc _ (Nat.le_refl _)).trans ((hab _ (by have := HL.out.st.lt; omega)).trans (only_sb HOa.out HN.out HL.out.st.lt)))
      refine ⟨rfl, hSc, ?_⟩
      have HLa := HL.out.only HN.out HRa.out HOa.out
      have HLb : RLoc wb w.heap.size (w.heap.size + 1) r (w.heap.size + 2) sb l #[.slice A m c, .int .i64 secs] (stC ⟨n1, q1, scanZ, [], []⟩ sv nilV) x3 y3 := HLa.same HN.out (fun i hi => hab i (by have := HL.out.st.lt; omega))
      have HLc := Lib.hid (HLb.same HN.out gc)
      have HDc : Hid (Below w.heap.size w wc) := Lib.hid ((HD.out.trans (only_low HOb.out HN.out HD.out.size)).grown hgrow (by have := HD.out.size; omega) (fun y e => by have := hnb y e; have := HN.out.y4; have := HN.out.y5; omega))
      have c80 := f16 wc hSc
      have z80 : wc.frozen? ⟨sb, 13, none⟩ = false := HLc.out.st.fr 13
      have HOWN := Lib.hid hown'
      have HSC := Lib.hid hszc
      have hvb : sb + 1 ≤ gn := (hown'.lt gn rfl).1
      have HVB := Lib.hid hvb
      clear hrowb hown' hgrow hnil hloc gc hnb hszc hab Xb hwb hsa hsb' HLa HLb hvb
      simp only [Act.put, List.setIfInBounds_toArray, List.set_cons_zero, List.set_cons_succ]
      refine wpLexE_take 1 (by kernel_rfl) (by kernel_rfl) ?_
      simp only [List.take_succ_cons, List.take_zero, List.drop_succ_cons, List.drop_zero]
      repeat (first
        | go_big_quiet_skip
        | (go_big_quiet_want
           go_big_quiet_op
           first
             | go_big_quiet_on
             | (apply Exists.intro
                refine ⟨fun W hW => ?_, ?_⟩
                · first
                    | exact rfl
                    | exact ⟨rfl, rfl⟩
                    | (have e0 := f16 W hW; simp only [e0, Result.andThen_ok]; done)
                    | (have e0 := f16 W hW; simp only [e0, Result.andThen_ok]; first | exact ⟨trivial, rfl⟩ | exact rfl | exact ⟨rfl, rfl⟩)
                    | (skip)
                go_big_quiet_on)))
      refine wpQuiet_nil ?_
      show wpList _ _ _ _ _ _
      clear f16 hSw hSa hSb hSc
      go_wp2_with fail
      obtain ⟨wd, hwd⟩ : ∃ y, y = wc.setCell ⟨sb, 13, none⟩ (.slice (some ⟨gn, 0, none⟩) (k + 1) cap8) := ⟨_, rfl⟩
      have gd : ∀ i, i ≠ sb → wd.heap[i]? = wc.heap[i]? := fun i hi => by rw [hwd]; exact Below.heap_setCell wc ⟨sb, 13, none⟩ _ i hi
      have hOd : Blk wd sb 48 (stC ⟨n1, q1, scanZ, [], []⟩ (.slice (some ⟨gn, 0, none⟩) (k + 1) cap8) nilV) := by rw [hwd, ← stC_13 ⟨n1, q1, scanZ, [], []⟩ sv]; exact HLc.out.st.put 13 _
      have hsd : wd.heap.size = wc.heap.size := by rw [hwd]; simp [World.setCell]
      have hbd : Below w.heap.size w wd := by rw [hwd]; exact below_set HDc.out _ _ _ (by have := HN.out.y4; have := HN.out.y5; show w.heap.size ≤ sb; omega)
      rw [← hwd]
      have hsn : itR (rSn l) (k + 1) (p2, e2) = ((itR (rSn l) k (p2, e2)).1 ++ [xs], (x3, y3)) := by
        show ((itR (rSn l) k (p2, e2)).1 ++ [(rSn l (itR (rSn l) k (p2, e2)).2).1], (rSn l (itR (rSn l) k (p2, e2)).2).2) = _
        rw [HIT.out, HSN.out, HXS.out]
      go_roundw
      case rel =>
        refine ⟨k + 1, _, x3, y3, HLT.out, by go_num, hbd, HLc.out.turn HN.out gd hOd, by rw [hsn], ?_, by rw [hsd]; exact HSC.out⟩
        rw [hsn, snapC_snoc]
        exact ownsRow_same HOWN.out (fun y e => by cases e; exact gd gn (by have := HVB.out; omega))
      case measure => have := HLT.out; simp [RowKit.intOf]; omega
    · obtain rfl : k = N1 := by omega
      have hdc : decide ((k : Int) < k) = false := decide_eq_false (by omega)
      obtain ⟨ss, hss⟩ : ∃ ss, ss = (itR (rSn l) k (p2, e2)).1 := ⟨_, rfl⟩
      have HS1 : Hid (itR (rSn l) k (p2, e2) = (ss, (p, e))) := Lib.hid (by rw [hss, ← HIT.out])
      rw [← hss] at HROW
      have HLS : Hid (ss.length = k) := Lib.hid (by rw [hss, itR_len])
      clear hss HIT
      obtain ⟨lb, hlb⟩ : ∃ x, x = wr.heap.size := ⟨_, rfl⟩
      obtain ⟨wA, hwA⟩ : ∃ y, wr.alloc (.cells #[.int .i64 0, .int .i64 0, .int .i64 0, .int .i64 0, .int .i64 0, .int .i64 0, .int .i64 0, .int .i64 0, .int .i64 0] 35) = y := ⟨_, rfl⟩
      have A1 : Blk wA lb 35 #[.int .i64 0, .int .i64 0, .int .i64 0, .int .i64 0, .int .i64 0, .int .i64 0, .int .i64 0, .int .i64 0, .int .i64 0] := by rw [← hwA, hlb]; exact Blk.new _ _ _
      have hbA : Below wr.heap.size wr wA := by rw [← hwA]; exact keep_alloc (Below.refl _ _) _
      have hLA := HL.out.below hbA
      have hDA : Below w.heap.size w wA := keep_below hbA HD.out
      have hRA : wA.ownsRow (sb + 1) 75 15 sv k (snapC ss) := ownsRow_same HROW.out (fun y hy => hbA.block y (HROW.out.lt y hy).2)
      have hlbs : sb + 1 ≤ lb ∧ (∀ y, sv.ownBlock = some y → y < lb) ∧ lb + 1 ≤ wA.heap.size := ⟨by rw [hlb]; exact HSZ.out, fun y hy => by rw [hlb]; exact (HROW.out.lt y hy).2, by rw [← hwA, World.size_alloc, hlb]; omega⟩
      have HWA := Lib.hid (And.intro hwA hlb)
      have HAA := Lib.hid A1
      have HLA := Lib.hid hLA
      have HDA := Lib.hid hDA
      have HRA := Lib.hid hRA
      have HLB := Lib.hid (And.intro hlbs.1 hlbs.2.1)
      have HSA := Lib.hid hlbs.2.2
      have hN1 : k ≤ 100 := by omega
      clear hlb hwA A1 hbA hLA hDA hRA hlbs HD HL HROW HSZ hlt hk hc1
      go_wp2_with fail
      rw [← HWA.out.2]
      rw [HWA.out.1]
      clear HWA
      go_loopw [9, 34] (fun _ t wr => ∃ (i : Nat) (cs : Array Value) (pp : Nat) (ee : Int), i ≤ 9 ∧ t = .int .i64 i ∧ Below w.heap.size w wr ∧ RLoc wr w.heap.size (w.heap.size + 1) r (w.heap.size + 2) sb l #[.slice A m c, .int .i64 secs] (stC ⟨n1, q1, scanZ, [], []⟩ sv nilV) pp ee ∧
        (itR (rC l bigC) i (p, e)).2 = (pp, ee) ∧ wr.ownsRow (sb + 1) 75 15 sv k (snapC ss) ∧ lb + 1 ≤ wr.heap.size ∧ Blk wr lb 35 cs ∧ cs.size = 9 ∧ ∀ (j : Nat) (x : Int), (itR (rC l bigC) i (p, e)).1[j]? = some x → cs[j]? = some (Value.int IntKind.i64 x)) (fun _ t _ => 9 - (RowKit.intOf t).toNat)
      case atStart => exact ⟨0, _, p, e, Nat.zero_le _, rfl, HDA.out, HLA.out, rfl, HRA.out, HSA.out, HAA.out, rfl, fun j x hx => by simp [itR] at hx⟩
      case round =>
        obtain ⟨i, cs, pp, ee, hi9, rfl, hd, hloc, hit, hrow, hsz, hblk, hcs, hal⟩ := hrel
        have HD := Lib.hid hd
        have HL := Lib.hid hloc
        have HIT := Lib.hid hit
        have HROW := Lib.hid hrow
        have HSZ := Lib.hid hsz
        have HBK := Lib.hid hblk
        have HCS := Lib.hid hcs
        have HAL := Lib.hid hal
        clear hd hloc hit hrow hsz hblk hcs hal HDA HLA HRA HSA HAA
        by_cases hlt : i < 9
        · obtain ⟨a1, x1, y1, hS, C1, _, _⟩ := c_call l bigC (by decide) pp ee
          have HSN := Lib.hid hS
          have HC1 := Lib.hid C1
          have hdc : decide (i < 9) = true := decide_eq_true hlt
          have HLT := Lib.hid hlt
          clear hS C1
          go_wp2_with fail
          refine (HC1.out wr r (w.heap.size + 2) HL.out.rd).mono ?_
          rintro x w8 ⟨rfl, hR8, hO8⟩
          have HL8 := Lib.hid (HL.out.only HN.out hR8 hO8)
          have HO8 := Lib.hid hO8
          have K8 : Blk w8 lb 35 cs := (only_above hO8 HN.out HBK.out.lt (by have := HLB.out.1; omega)).trans HBK.out
          have c8 : w8.cell? ⟨lb, i, none⟩ = some (cs[i]'(by have := HCS.out; omega)) := K8.at_ (Array.getElem?_eq_getElem _)
          have z8 : w8.frozen? ⟨lb, i, none⟩ = false := K8.fr i
          have HK8 := Lib.hid K8
          clear hR8 hO8 K8
          go_wp2_with fail
          obtain ⟨wB, hwB⟩ : ∃ y, y = w8.setCell ⟨lb, i, none⟩ (.int .i64 a1) := ⟨_, rfl⟩
          have gB : ∀ j, j ≠ lb → wB.heap[j]? = w8.heap[j]? := fun j hj => by rw [hwB]; exact Below.heap_setCell w8 ⟨lb, i, none⟩ _ j hj
          have hKB : Blk wB lb 35 (cs.setIfInBounds i (.int .i64 a1)) := by rw [hwB]; exact HK8.out.put i _
          have hsB : wB.heap.size = w8.heap.size := by rw [hwB]; simp [World.setCell]
          have hlb1 : sb + 1 ≤ lb := HLB.out.1
          have hn4 := HN.out.y4
          have hn5 := HN.out.y5
          have hbB : Below w.heap.size w wB := by rw [hwB]; exact below_set (HD.out.trans (only_low HO8.out HN.out HD.out.size)) _ _ _ (by show w.heap.size ≤ lb; omega)
          rw [← hwB]
          have hsn : itR (rC l bigC) (i + 1) (p, e) = ((itR (rC l bigC) i (p, e)).1 ++ [a1], (x1, y1)) := by
            show ((itR (rC l bigC) i (p, e)).1 ++ [(rC l bigC (itR (rC l bigC) i (p, e)).2).1], (rC l bigC (itR (rC l bigC) i (p, e)).2).2) = _
            rw [HIT.out, HSN.out]
          go_roundw
          case rel =>
            refine ⟨i + 1, _, x1, y1, HLT.out, by go_num, hbB, HL8.out.same HN.out (fun j hj => gB j (by omega)), by rw [hsn], ownsRow_same (row_only HROW.out HO8.out HN.out (by omega)) (fun y hy => gB y (by have := HLB.out.2 y hy; omega)),
              by rw [hsB]; have := HO8.out.size; have := HSZ.out; omega, hKB, by rw [Array.size_setIfInBounds]; exact HCS.out, fun j x hx => ?_⟩
            rw [hsn] at hx
            have hlen := itR_len (rC l bigC) i (p, e)
            by_cases hj : j < i
            · rw [List.getElem?_append_left (by omega)] at hx
              rw [Array.getElem?_setIfInBounds_ne (by omega)]
              exact HAL.out j x hx
            · have hj2 : j = i := by
                have := (List.getElem?_eq_some_iff.1 hx).1
                rw [List.length_append, hlen] at this
                simp at this
                omega
              subst hj2
              rw [List.getElem?_append_right (by omega), hlen, Nat.sub_self] at hx
              simp at hx
              subst hx
              rw [Array.getElem?_setIfInBounds_self_of_lt (by have := HCS.out; have := HLT.out; omega)]
          case measure => have := HLT.out; simp [RowKit.intOf]; omega
        · obtain rfl : i = 9 := by omega
          obtain ⟨zs, hzs⟩ : ∃ zs, zs = (itR (rC l bigC) 9 (p, e)).1 := ⟨_, rfl⟩
          have HZ1 : Hid (itR (rC l bigC) 9 (p, e) = (zs, (pp, ee))) := Lib.hid (by rw [hzs, ← HIT.out])
          have hzl : zs.length = 9 := by rw [hzs, itR_len]
          rw [← hzs] at HAL
          clear hzs HIT
          match zs, hzl with
          | [t0, t1, t2, t3, t4, t5, t6, t7, t8], _ =>
            have K := HBK.out
            have k0 : wr.cell? ⟨lb, 0, none⟩ = some (.int .i64 t0) := K.at_ (HAL.out 0 t0 rfl)
            have k1 : wr.cell? ⟨lb, 1, none⟩ = some (.int .i64 t1) := K.at_ (HAL.out 1 t1 rfl)
            have k2 : wr.cell? ⟨lb, 2, none⟩ = some (.int .i64 t2) := K.at_ (HAL.out 2 t2 rfl)
            have k3 : wr.cell? ⟨lb, 3, none⟩ = some (.int .i64 t3) := K.at_ (HAL.out 3 t3 rfl)
            have k4 : wr.cell? ⟨lb, 4, none⟩ = some (.int .i64 t4) := K.at_ (HAL.out 4 t4 rfl)
            have k5 : wr.cell? ⟨lb, 5, none⟩ = some (.int .i64 t5) := K.at_ (HAL.out 5 t5 rfl)
            have k6 : wr.cell? ⟨lb, 6, none⟩ = some (.int .i64 t6) := K.at_ (HAL.out 6 t6 rfl)
            have k7 : wr.cell? ⟨lb, 7, none⟩ = some (.int .i64 t7) := K.at_ (HAL.out 7 t7 rfl)
            have k8 : wr.cell? ⟨lb, 8, none⟩ = some (.int .i64 t8) := K.at_ (HAL.out 8 t8 rfl)
            obtain ⟨z, hz⟩ : ∃ z : ScanA, z = ⟨t0, t1, t2, t3, t4, t5, t6, t7, t8⟩ := ⟨_, rfl⟩
            have HZ := Lib.hid hz
            clear K hz
            have hi45 : (Tryz.prog.info? 45).map (·.size) = some (#[.int .i64 t0, .int .i64 t1, .int .i64 t2, .int .i64 t3, .int .i64 t4, .int .i64 t5, .int .i64 t6, .int .i64 t7, .int .i64 t8] : Array Value).size := by kernel_rfl
            have h19 : (#[.int .i64 t0, .int .i64 t1, .int .i64 t2, .int .i64 t3, .int .i64 t4, .int .i64 t5, .int .i64 t6, .int .i64 t7, .int .i64 t8] : Array Value).all (·.oneCell') = true := by kernel_rfl
            have hth : wr.there sb 14 (#[.int .i64 t0, .int .i64 t1, .int .i64 t2, .int .i64 t3, .int .i64 t4, .int .i64 t5, .int .i64 t6, .int .i64 t7, .int .i64 t8] : Array Value).size := HL.out.st.there (show 14 + 9 ≤ 24 by decide)
            obtain ⟨wC, hwC⟩ : ∃ y, wr.setCells sb 14 (#[.int .i64 t0, .int .i64 t1, .int .i64 t2, .int .i64 t3, .int .i64 t4, .int .i64 t5, .int .i64 t6, .int .i64 t7, .int .i64 t8] : Array Value).toList = y := ⟨_, rfl⟩
            have SC : Blk wC sb 48 (stC ⟨n1, q1, z, [], []⟩ sv nilV) := by
              rw [HZ.out, ← st_scan ⟨n1, q1, scanZ, [], []⟩ ⟨t0, t1, t2, t3, t4, t5, t6, t7, t8⟩ sv nilV, ← hwC]
              exact HL.out.st.puts _ 14
            have gC : ∀ j, j ≠ sb → wC.heap[j]? = wr.heap[j]? := fun j hj => by rw [← hwC]; exact sets_far _ _ _ _ trivial hj
            have LC := HL.out.turn HN.out gC SC
            have DC : Below w.heap.size w wC := by rw [← hwC]; exact below_sets _ _ HD.out (by have := HN.out.y4; have := HN.out.y5; omega)
            have RC : wC.ownsRow (sb + 1) 75 15 sv k (snapC ss) := ownsRow_same HROW.out (fun y hy => gC y (by have := (HROW.out.lt y hy).1; omega))
            have sC : wC.heap.size = wr.heap.size := by rw [← hwC, sets_size]
            obtain ⟨m1, p5, e5, hM, CM, hm0, hm1⟩ := c_call l 100 (by decide) pp ee
            obtain ⟨M1, rfl⟩ : ∃ N : Nat, m1 = (N : Int) := ⟨m1.toNat, (Int.toNat_of_nonneg hm0).symm⟩
            have HM := Lib.hid hM
            have HCM := Lib.hid CM
            have HWC := Lib.hid hwC
            have HLC := Lib.hid LC
            have HDC := Lib.hid DC
            have HRC := Lib.hid RC
            have HSZC : Hid (lb + 1 ≤ wC.heap.size) := Lib.hid (by rw [sC]; exact HSZ.out)
            have hM1 : M1 ≤ 100 := by omega
            have hdc : decide ((9 : Int) < 9) = false := by decide
            clear hM CM hwC LC DC RC sC gC SC hm0 hm1 HBK HCS HAL HD HL HROW HSZ hlt hi9
            go_wp2_with ((with_reducible refine wpList_store_mid ?a1 45 (.tmp 61) (.tmp 60) ?a2 sb 14 #[.int .i64 t0, .int .i64 t1, .int .i64 t2, .int .i64 t3, .int .i64 t4, .int .i64 t5, .int .i64 t6, .int .i64 t7, .int .i64 t8] ?a3 ?a4 hth hi45 h19 ?_); (case a2 => rfl); (case a3 => rfl); (case a4 => rfl); (case a1 => rfl); simp only [Act.put, List.setIfInBounds_toArray, List.set_cons_zero, List.set_cons_succ]; rw [HWC.out])
            refine (HCM.out wC r (w.heap.size + 2) HLC.out.rd).mono ?_
            rintro x wE ⟨rfl, hRE, hOE⟩
            have HLE := Lib.hid (HLC.out.only HN.out hRE hOE)
            have HDE : Hid (Below w.heap.size w wE) := Lib.hid (HDC.out.trans (only_low hOE HN.out HDC.out.size))
            have HRE : Hid (wE.ownsRow (sb + 1) 75 15 sv k (snapC ss)) := Lib.hid (row_only HRC.out hOE HN.out (by omega))
            clear hRE hOE HLC HDC HRC HWC hth hi45 h19 k0 k1 k2 k3 k4 k5 k6 k7 k8 HCM HSZC
            obtain ⟨B2, hB2⟩ : ∃ B2, B2 = wE.heap.size := ⟨_, rfl⟩
            have HB2 : Hid (sb + 1 ≤ B2 ∧ (∀ y, sv.ownBlock = some y → y < B2) ∧ B2 ≤ wE.heap.size) := Lib.hid ⟨by rw [hB2]; exact HLE.out.st.lt, fun y hy => by rw [hB2]; exact (HRE.out.lt y hy).2, by omega⟩
            clear hB2 HLB
            go_wp2_with fail
            go_loopw [64] (fun t wr => ∃ (i : Nat) (tv : Value) (pq : Nat) (eq : Int), i ≤ M1 ∧ t = .int .i64 i ∧ Below w.heap.size w wr ∧ RLoc wr w.heap.size (w.heap.size + 1) r (w.heap.size + 2) sb l #[.slice A m c, .int .i64 secs] (stC ⟨n1, q1, z, [], []⟩ sv tv) pq eq ∧
              (itR (rSt l) i (p5, e5)).2 = (pq, eq) ∧ wr.ownsRow (sb + 1) 75 15 sv k (snapC ss) ∧ wr.ownsRow B2 61 2 tv i (staC (itR (rSt l) i (p5, e5)).1) ∧ B2 ≤ wr.heap.size) (fun t _ => M1 - (RowKit.intOf t).toNat)
            case atStart => exact ⟨0, nilV, p5, e5, Nat.zero_le _, rfl, HDE.out, HLE.out, rfl, HRE.out, World.ownsRow_nil _ _ _ _, HB2.out.2.2⟩
            case round =>
              obtain ⟨i, tv, pq, eq, hiM, rfl, hd, hloc, hit, hrs, hrow, hsz⟩ := hrel
              have HD := Lib.hid hd
              have HL := Lib.hid hloc
              have HIT := Lib.hid hit
              have HRS := Lib.hid hrs
              have HROW := Lib.hid hrow
              have HSZ := Lib.hid hsz
              clear hd hloc hit hrs hrow hsz HDE HLE HRE
              by_cases hlt : i < M1
              · obtain ⟨a1, x1, y1, a2, x2, y2, hS, C1, C2⟩ := st_calls l pq eq
                have HSN := Lib.hid hS
                have HC1 := Lib.hid C1
                have HC2 := Lib.hid C2
                have hdc : decide (i < M1) = true := decide_eq_true hlt
                have HLT := Lib.hid hlt
                clear hS C1 C2
                repeat' (first
                  | go_values
                  | go_skip
                  | go_guarded
                  | ((fail_if_success (with_reducible refine drawn_mark ?_))
                     first
                       | go_step
                       | go_upon
                       | go_back
                       | (simp only [Int.not_lt, Int.not_le] at *; go_simp)
                       | (go_values <;> (try go_simp))
                       | (go_ite <;> go_prune <;> (try go_simp))
                       | (split <;> (first | (rename_i hx; exact (hx _ rfl).elim) | go_prune))))
                obtain ⟨S0, hS0⟩ : ∃ S0 : World → Prop, S0 = fun W => W.heap[sb]? = wr.heap[sb]? := ⟨_, rfl⟩
                have f16 : ∀ W, S0 W → W.cell? ⟨sb, 23, none⟩ = some tv := fun W hW => by rw [hS0] at hW; exact (show Blk W _ _ _ from hW.trans HL.out.st).at_ rfl
                have hSw : S0 wr.drew := by rw [hS0]; rfl
                have hS2 : ∀ W, W.heap[sb]? = wr.heap[sb]? → S0 W := fun W a => by rw [hS0]; exact a
                have HSS := Lib.hid hS2
                clear hS0 hS2
                refine wp_region_eff S0 [3, 5, 6, 7, 8] 10 (by kernel_rfl) (by kernel_rfl) (by kernel_rfl) hSw ?_
                simp only [List.take_succ_cons, List.take_zero, List.drop_succ_cons, List.drop_zero]
                refine wpLexE_take 3 (by kernel_rfl) (by kernel_rfl) ?_
                simp only [List.take_succ_cons, List.take_zero, List.drop_succ_cons, List.drop_zero]
                repeat (first
                  | go_big_quiet_skip
                  | (go_big_quiet_want
                     go_big_quiet_op
                     first
                       | go_big_quiet_on
                       | (apply Exists.intro
                          refine ⟨fun W hW => ?_, ?_⟩
                          · first
                              | exact rfl
                              | exact ⟨rfl, rfl⟩
                              | (have e0 := f16 W hW; simp only [e0, Result.andThen_ok]; done)
                              | (have e0 := f16 W hW; simp only [e0, Result.andThen_ok]; first | exact ⟨trivial, rfl⟩ | exact rfl | exact ⟨rfl, rfl⟩)
                              | (skip)
                          go_big_quiet_on)))
                refine wpQuiet_nil ?_
                show wpLexE _ _ _ _ _ _ _ _ _
                refine wpLexE_eff (by kernel_rfl) rfl ?_
                go_wp2_with fail
                refine (HC1.out wr.drew r (w.heap.size + 2) (HL.out.rd.same rfl rfl)).mono ?_
                rintro x w8 ⟨rfl, hR8, hO8⟩
                have hO8 : Only (fun i => i = r ∨ i = w.heap.size + 2) wr w8 := ((Only.refl _ wr).drew).trans hO8 (fun i hi => .inl hi)
                have hS8 : S0 w8 := HSS.out _ (only_sb hO8 HN.out HL.out.st.lt)
                have HR8 := Lib.hid hR8
                have HO8 := Lib.hid hO8
                clear hR8 hO8
                go_wp2_with fail
                refine ⟨rfl, hS8, ?_⟩
                refine wpLexE_take 1 (by kernel_rfl) (by kernel_rfl) ?_
                simp only [List.take_succ_cons, List.take_zero, List.drop_succ_cons, List.drop_zero]
                repeat (first
                  | go_big_quiet_skip
                  | (go_big_quiet_want
                     go_big_quiet_op
                     first
                       | go_big_quiet_on
                       | (apply Exists.intro
                          refine ⟨fun W hW => ?_, ?_⟩
                          · first
                              | exact rfl
                              | exact ⟨rfl, rfl⟩
                              | (have e0 := f16 W hW; simp only [e0, Result.andThen_ok]; done)
                              | (have e0 := f16 W hW; simp only [e0, Result.andThen_ok]; first | exact ⟨trivial, rfl⟩ | exact rfl | exact ⟨rfl, rfl⟩)
                              | (skip)
                          go_big_quiet_on)))
                refine wpQuiet_nil ?_
                show wpLexE _ _ _ _ _ _ _ _ _
                refine wpLexE_eff (by kernel_rfl) rfl ?_
                go_wp2_with fail
                refine (HC2.out w8 r (w.heap.size + 2) HR8.out).mono ?_
                rintro x wa ⟨rfl, hRa, hOa⟩
                have hOa := HO8.out.trans hOa (fun i hi => .inl hi)
                have hSa : S0 wa := HSS.out _ (only_sb hOa HN.out HL.out.st.lt)
                have HRa := Lib.hid hRa
                have HOa := Lib.hid hOa
                clear hRa hOa hS8
                go_wp2_with fail
                refine ⟨rfl, hSa, ?_⟩
                refine wpLexE_eff (by kernel_rfl) rfl ?_
                go_wp2_with fail
                refine ⟨rfl, hSa, ?_⟩
                refine wpLexE_eff (by kernel_rfl) rfl ?_
                go_wp2_with fail
                obtain ⟨xs, hxs⟩ : ∃ xs : Int × Int, xs = (a1, a2) := ⟨_, rfl⟩
                have HXS := Lib.hid hxs
                clear hxs
                obtain ⟨wb, hwb⟩ : ∃ y, wa.alloc (.cells #[.int .i64 a1, .int .i64 a2] 61) = y := ⟨_, rfl⟩
                have Xb : Blk wb wa.heap.size 61 (staL xs).toArray := by rw [← hwb, HXS.out]; exact Blk.new _ _ _
                have hab : ∀ i, i < wa.heap.size → wb.heap[i]? = wa.heap[i]? := fun i hi => by rw [← hwb]; exact Below.heap_alloc wa _ i hi
                have hsa : wr.heap.size ≤ wa.heap.size := HOa.out.size
                have hsb' : wb.heap.size = wa.heap.size + 1 := by rw [← hwb]; simp
                rw [hwb]
                have hSb : S0 wb := HSS.out _ ((hab _ (by have := HL.out.st.lt; omega)).trans (only_sb HOa.out HN.out HL.out.st.lt))
                refine ⟨rfl, hSb, ?_⟩
                have hB21 := HB2.out.1
                have hrowb : wb.ownsRow B2 61 2 tv i (staC (itR (rSt l) i (p5, e5)).1) :=
                  ownsRow_same (row_only HROW.out HOa.out HN.out (by omega)) (fun y hy => hab y (by have := (HROW.out.lt y hy).2; omega))
                have HOb : Hid (Only (fun i => i = r ∨ i = w.heap.size + 2) wr wb) := Lib.hid (by rw [← hwb]; exact HOa.out.alloc _)
                refine wpLexE_eff (by kernel_rfl) rfl ?_
                refine wpList_append_own_at _ rfl (.tmp 67) (.tmp 73) 46 rfl B2 61 j0 _ 2 16 Tryz.underlying46 hj hy0 hy1 hy2 rfl (by decide) _ _ _ rfl hrowb ⟨wa.heap.size, 0, none⟩ 1 1 (staL xs) rfl rfl ?c1 ?c2 (by unfold maxLen; omega) (by omega) (by have := HSZ.out; omega) ?_
                case c1 =>
                  intro j u hj
                  rw [Addr.add_mid, Nat.zero_add]
                  exact Xb.at_ (by simpa using hj)
                case c2 => intro u hu; simp only [staL, List.mem_cons, List.not_mem_nil, or_false] at hu; rcases hu with rfl | rfl <;> rfl
                intro v' wc hown' hgrow hnil hloc
                obtain ⟨gn, cap8, rfl, _, _⟩ := hown'.form (by omega)
                have hnb : ∀ y, tv.ownBlock = some y → B2 ≤ y := fun y e => (HROW.out.lt y e).1
                have gc : ∀ i, i < B2 → wc.heap[i]? = wb.heap[i]? := fun i hi => hgrow.block i (by have := HSZ.out; omega) (fun e => by have := hnb i e.symm; omega)
                have hszc : B2 ≤ wc.heap.size := by have := hgrow.size; have := HSZ.out; omega
                have hSc : S0 wc := HSS.out _ ((gc _ (by omega)).trans ((hab _ (by have := HL.out.st.lt; omega)).trans (only_sb HOa.out HN.out HL.out.st.lt)))
                refine ⟨rfl, hSc, ?_⟩
                have HLa := HL.out.only HN.out HRa.out HOa.out
                have HLb : RLoc wb w.heap.size (w.heap.size + 1) r (w.heap.size + 2) sb l #[.slice A m c, .int .i64 secs] (stC ⟨n1, q1, z, [], []⟩ sv tv) x2 y2 := HLa.same HN.out (fun i hi => hab i (by have := HL.out.st.lt; omega))
                have HLc := Lib.hid (HLb.same HN.out (fun i hi => gc i (by omega)))
                have HRSc : Hid (wc.ownsRow (sb + 1) 75 15 sv k (snapC ss)) := Lib.hid (ownsRow_same (row_only HRS.out HOb.out HN.out (by omega)) (fun y hy => gc y (HB2.out.2.1 y hy)))
                have HDc : Hid (Below w.heap.size w wc) := Lib.hid ((HD.out.trans (only_low HOb.out HN.out HD.out.size)).grown hgrow (by have := HD.out.size; omega) (fun y e => by have := hnb y e; have := HN.out.y4; have := HN.out.y5; omega))
                have c80 := f16 wc hSc
                have z80 : wc.frozen? ⟨sb, 23, none⟩ = false := HLc.out.st.fr 23
                have HOWN := Lib.hid hown'
                have HSC := Lib.hid hszc
                have hvb : B2 ≤ gn := (hown'.lt gn rfl).1
                have HVB := Lib.hid hvb
                clear hrowb hown' hgrow hnil hloc gc hnb hszc hab Xb hwb hsa hsb' HLa HLb hvb
                simp only [Act.put, List.setIfInBounds_toArray, List.set_cons_zero, List.set_cons_succ]
                refine wpLexE_take 1 (by kernel_rfl) (by kernel_rfl) ?_
                simp only [List.take_succ_cons, List.take_zero, List.drop_succ_cons, List.drop_zero]
                repeat (first
                  | go_big_quiet_skip
                  | (go_big_quiet_want
                     go_big_quiet_op
                     first
                       | go_big_quiet_on
                       | (apply Exists.intro
                          refine ⟨fun W hW => ?_, ?_⟩
                          · first
                              | exact rfl
                              | exact ⟨rfl, rfl⟩
                              | (have e0 := f16 W hW; simp only [e0, Result.andThen_ok]; done)
                              | (have e0 := f16 W hW; simp only [e0, Result.andThen_ok]; first | exact ⟨trivial, rfl⟩ | exact rfl | exact ⟨rfl, rfl⟩)
                              | (skip)
                          go_big_quiet_on)))
                refine wpQuiet_nil ?_
                show wpList _ _ _ _ _ _
                clear f16 hSw hSa hSb hSc
                go_wp2_with fail
                obtain ⟨wd, hwd⟩ : ∃ y, y = wc.setCell ⟨sb, 23, none⟩ (.slice (some ⟨gn, 0, none⟩) (i + 1) cap8) := ⟨_, rfl⟩
                have gd : ∀ i, i ≠ sb → wd.heap[i]? = wc.heap[i]? := fun i hi => by rw [hwd]; exact Below.heap_setCell wc ⟨sb, 23, none⟩ _ i hi
                have hOd : Blk wd sb 48 (stC ⟨n1, q1, z, [], []⟩ sv (.slice (some ⟨gn, 0, none⟩) (i + 1) cap8)) := by rw [hwd, ← stC_23 ⟨n1, q1, z, [], []⟩ sv tv]; exact HLc.out.st.put 23 _
                have hsd : wd.heap.size = wc.heap.size := by rw [hwd]; simp [World.setCell]
                have hbd : Below w.heap.size w wd := by rw [hwd]; exact below_set HDc.out _ _ _ (by have := HN.out.y4; have := HN.out.y5; show w.heap.size ≤ sb; omega)
                rw [← hwd]
                have hsn : itR (rSt l) (i + 1) (p5, e5) = ((itR (rSt l) i (p5, e5)).1 ++ [xs], (x2, y2)) := by
                  show ((itR (rSt l) i (p5, e5)).1 ++ [(rSt l (itR (rSt l) i (p5, e5)).2).1], (rSt l (itR (rSt l) i (p5, e5)).2).2) = _
                  rw [HIT.out, HSN.out, HXS.out]
                go_roundw
                case rel =>
                  refine ⟨i + 1, _, x2, y2, HLT.out, by go_num, hbd, HLc.out.turn HN.out gd hOd, by rw [hsn], ownsRow_same HRSc.out (fun y hy => gd y (by have := (HRSc.out.lt y hy).1; omega)), ?_, by rw [hsd]; exact HSC.out⟩
                  rw [hsn, staC_snoc]
                  exact ownsRow_same HOWN.out (fun y e => by cases e; exact gd gn (by have := HVB.out; omega))
                case measure => have := HLT.out; simp [RowKit.intOf]; omega
              · obtain rfl : i = M1 := by omega
                have hdc : decide ((i : Int) < i) = false := decide_eq_false (by omega)
                obtain ⟨tt, htt⟩ : ∃ tt, tt = (itR (rSt l) i (p5, e5)).1 := ⟨_, rfl⟩
                have HT1 : Hid (itR (rSt l) i (p5, e5) = (tt, (pq, eq))) := Lib.hid (by rw [htt, ← HIT.out])
                rw [← htt] at HROW
                have HLT : Hid (tt.length = i) := Lib.hid (by rw [htt, itR_len])
                clear htt HIT hlt hiM
                have HALL : Hid (rAll l (0, 0) = (⟨n1, q1, z, ss, tt⟩, (pq, eq))) := Lib.hid (by
                  unfold rAll bindR
                  rw [HK.out]
                  dsimp only
                  unfold pE bindR
                  rw [HC.out]
                  dsimp only
                  unfold pD bindR
                  rw [Int.toNat_natCast, HS1.out]
                  dsimp only
                  unfold pC bindR
                  rw [HZ1.out]
                  dsimp only
                  unfold pB bindR
                  rw [HM.out]
                  dsimp only
                  unfold pA bindR
                  rw [Int.toNat_natCast, HT1.out, HZ.out]
                  rfl)
                clear HK HC HS1 HZ1 HM HT1 HZ
                obtain ⟨S, hS⟩ : ∃ S : StA, S = ⟨n1, q1, z, ss, tt⟩ := ⟨_, rfl⟩
                have HLS' : RLoc wr w.heap.size (w.heap.size + 1) r (w.heap.size + 2) sb l #[.slice A m c, .int .i64 secs] (stC S sv tv) pq eq := by rw [hS]; exact HL.out
                have hsl : S.snaps.length = k := by rw [hS]; exact HLS.out
                have htl : S.stale.length = i := by rw [hS]; exact HLT.out
                have HST : Hid (∀ W : World, (∀ i, sb < i → i < wr.heap.size → W.heap[i]? = wr.heap[i]?) → StIn W S sv tv) := Lib.hid fun W hW =>
                  ⟨by rw [hsl]; rw [show snapC S.snaps = snapC ss by rw [hS]]; exact rowAt_own (ownsRow_same HRS.out (fun y hy => hW y (by have := (HRS.out.lt y hy).1; omega) (HRS.out.lt y hy).2)),
                    by rw [htl]; rw [show staC S.stale = staC tt by rw [hS]]; exact rowAt_own (ownsRow_same HROW.out (fun y hy => hW y (by have := (HROW.out.lt y hy).1; have := HB2.out.1; omega) (HROW.out.lt y hy).2))⟩
                have HCAP : Hid (CapOk sv) := Lib.hid (own_cap HRS.out)
                have HSLN : Hid (S.snaps.length ≤ 100 ∧ S.stale.length ≤ 100) := Lib.hid (by omega)
                have HRD : Hid (rdS gs secs l = if eq = 0 then (if allZ (l.drop pq) && mRight gs secs S then (S, 0) else (stZ, 3)) else (stZ, eq)) := Lib.hid (by unfold rdS; rw [HALL.out, hS])
                have HLq := Lib.hid HLS'
                have hgW : ∀ W, Below w.heap.size w W → GeoAt W A m gs := fun W hW => HG.out.below hW (Nat.le_refl _)
                have HGW := Lib.hid hgW
                obtain ⟨cZ, hcZ⟩ : ∃ x, x = stC stZ nilV nilV := ⟨_, rfl⟩
                have hi48 : (Tryz.prog.info? 48).map (·.size) = some cZ.size := by rw [hcZ, stC_size]; kernel_rfl
                have h1c : cZ.all (·.oneCell') = true := by rw [hcZ]; exact stC_one stZ none none 0 0 0 0
                have HCZ := Lib.hid hcZ
                clear HLS' hsl htl hS hgW hcZ HRS HROW HLS HLT HALL HL HB2 HSZ hM1 hN1
                have k1 : wr.cell? ⟨r, 1, none⟩ = some (.int .i64 eq) := HLq.out.rd.own.at_ rfl
                have k0 : wr.cell? ⟨r, 0, none⟩ = some (.pointer (some ⟨w.heap.size + 2, 0, none⟩)) := HLq.out.rd.own.at_ rfl
                by_cases he : eq = 0
                · subst he
                  have HRD : Hid (rdS gs secs l = if allZ (l.drop pq) && mRight gs secs S then (S, 0) else (stZ, 3)) := Lib.hid (by rw [HRD.out, if_pos rfl])
                  go_wp2_with fail
                  refine (rZeros_any (w.heap.size + 2) pq l wr HLq.out.rd.rd).mono ?_
                  rintro x wz ⟨rfl, nz, hwz⟩
                  have bz : Below wr.heap.size wr wz := by rw [hwz]; exact below_drewN (Below.refl _ _) nz
                  have HLz := Lib.hid (HLq.out.below bz)
                  have HDz := Lib.hid (keep_below bz HD.out)
                  have HBz := Lib.hid bz
                  have HSTz : Hid (StIn wz S sv tv) := Lib.hid (HST.out wz fun i _ hi => bz.block i hi)
                  clear bz hwz k0 k1 HLq HD
                  cases hz : allZ (l.drop pq) with
                  | false =>
                    have HV : Hid (rdS gs secs l = (stZ, 3)) := Lib.hid (by rw [HRD.out, hz]; rfl)
                    clear hz HRD
                    have k1 : wz.cell? ⟨r, 1, none⟩ = some (.int .i64 0) := HLz.out.rd.own.at_ rfl
                    have z1 : wz.frozen? ⟨r, 1, none⟩ = false := HLz.out.rd.own.fr 1
                    obtain ⟨wy, hwy⟩ : ∃ y, wz.setCell ⟨r, 1, none⟩ (.int .i64 3) = y := ⟨_, rfl⟩
                    have HLy : Hid (RLoc wy w.heap.size (w.heap.size + 1) r (w.heap.size + 2) sb l #[.slice A m c, .int .i64 secs] (stC S sv tv) pq 3) := Lib.hid (by rw [← hwy]; exact HLz.out.err HN.out 3)
                    have HDy : Hid (Below w.heap.size w wy) := Lib.hid (by rw [← hwy]; exact below_set HDz.out _ _ _ (by have := HN.out.y4; show w.heap.size ≤ r; omega))
                    have HWY := Lib.hid hwy
                    clear hwy
                    repeat' (first
                      | go_values
                      | go_skip
                      | go_guarded
                      | ((fail_if_success (with_reducible refine drawn_mark ?_))
                         first
                           | go_step
                           | go_upon
                           | go_back
                           | (simp only [Int.not_lt, Int.not_le] at *; go_simp)
                           | (go_values <;> (try go_simp))
                           | (go_ite <;> go_prune <;> (try go_simp))
                           | (split <;> (first | (rename_i hx; exact (hx _ rfl).elim) | go_prune))))
                    rw [HWY.out]
                    clear k1 z1 HWY
                    obtain ⟨S0, hS0⟩ : ∃ S0 : World → Prop, S0 = fun W => W.heap[r]? = wy.heap[r]? := ⟨_, rfl⟩
                    have f1 : ∀ W, S0 W → W.cell? ⟨r, 1, none⟩ = some (.int .i64 3) := fun W hW => by rw [hS0] at hW; exact (show Blk W _ _ _ from hW.trans HLy.out.rd.own).at_ rfl
                    have fb : ∀ W, S0 W → (Instr.build 48 #[]).run Tryz.prog W = .ok (.agg cZ) W := fun W _ => by rw [HCZ.out]; exact build_stZ W
                    have hSw : S0 wy.drew := by rw [hS0]; rfl
                    have HLd : Hid (RLoc wy.drew w.heap.size (w.heap.size + 1) r (w.heap.size + 2) sb l #[.slice A m c, .int .i64 secs] (stC S sv tv) pq 3) := Lib.hid (HLy.out.same HN.out (fun i _ => rfl))
                    have hth : wy.drew.there (w.heap.size + 1) 0 cZ.size := HLd.out.zer.there (by rw [HCZ.out]; exact Nat.le_refl 24)
                    have HRES : Hid (Blk (wy.drew.setCells (w.heap.size + 1) 0 cZ.toList) (w.heap.size + 1) 48 cZ) := Lib.hid (HLd.out.zer.putAll cZ (by rw [HCZ.out]; rfl))
                    have HBR : Hid (Below w.heap.size w (wy.drew.setCells (w.heap.size + 1) 0 cZ.toList)) := Lib.hid (below_sets _ _ (below_drew' HDy.out) (by omega))
                    have hSr : S0 (wy.drew.setCells (w.heap.size + 1) 0 cZ.toList) := by rw [hS0]; exact sets_far _ _ _ _ trivial (by have := HN.out.y4; omega)
                    clear hS0
                    refine wp_region_effA S0 [5] (by kernel_rfl) (by kernel_rfl) (by kernel_rfl) hSw ?_
                    refine wpLexE_take 5 (by kernel_rfl) (by kernel_rfl) ?_
                    simp only [List.take_succ_cons, List.take_zero, List.drop_succ_cons, List.drop_zero]
                    repeat (first
                      | go_big_quiet_skip
                      | (go_big_quiet_want
                         go_big_quiet_op
                         first
                           | go_big_quiet_on
                           | (apply Exists.intro
                              refine ⟨fun W hW => ?_, ?_⟩
                              · first
                                  | exact rfl
                                  | exact ⟨rfl, rfl⟩
                                  | (have e0 := f1 W hW; have e1 := fb W hW; simp only [e0, e1, Result.andThen_ok]; done)
                                  | (have e0 := f1 W hW; have e1 := fb W hW; simp only [e0, e1, Result.andThen_ok]; first | exact ⟨trivial, rfl⟩ | exact rfl | exact ⟨rfl, rfl⟩)
                                  | (skip)
                              go_big_quiet_on)))
                    refine wpQuiet_nil ?_
                    show wpLexE _ _ _ _ _ _ _ _ _
                    refine wpLexE_eff (by kernel_rfl) rfl ?_
                    rw [show (#[.int .i64 0, .int .i64 0, .int .i64 0, .int .i64 0, .int .i64 0, .bool false, .int .i64 0, .int .i64 0, .int .i64 0, .int .u64 0, .int .u64 0, .int .u64 0, .int .u64 0, .slice none 0 0, .int .i64 0, .int .i64 0, .int .i64 0, .int .i64 0, .int .i64 0, .int .i64 0, .int .i64 0, .int .i64 0, .int .i64 0, .slice none 0 0] : Array Value) = cZ by rw [HCZ.out]; rfl]
                    go_wp2_with ((with_reducible refine wpList_store_mid ?a1 48 (.tmp 4) (.tmp 104) ?a2 (w.heap.size + 1) 0 cZ ?a3 ?a4 hth hi48 h1c ?_); (case a2 => rfl); (case a3 => rfl); (case a4 => rfl); (case a1 => rfl); simp only [Act.put, List.setIfInBounds_toArray, List.set_cons_zero, List.set_cons_succ])
                    refine ⟨rfl, hSr, ?_⟩
                    refine wpLexE_take 1 (by kernel_rfl) (by kernel_rfl) ?_
                    simp only [List.take_succ_cons, List.take_zero, List.drop_succ_cons, List.drop_zero]
                    repeat (first
                      | go_big_quiet_skip
                      | (go_big_quiet_want
                         go_big_quiet_op
                         first
                           | go_big_quiet_on
                           | (apply Exists.intro
                              refine ⟨fun W hW => ?_, ?_⟩
                              · first
                                  | exact rfl
                                  | exact ⟨rfl, rfl⟩
                                  | (have e0 := f1 W hW; have e1 := fb W hW; simp only [e0, e1, Result.andThen_ok]; done)
                                  | (have e0 := f1 W hW; have e1 := fb W hW; simp only [e0, e1, Result.andThen_ok]; first | exact ⟨trivial, rfl⟩ | exact rfl | exact ⟨rfl, rfl⟩)
                                  | (skip)
                              go_big_quiet_on)))
                    refine wpQuiet_nil ?_
                    show wpLexE _ _ _ _ _ _ _ _ _
                    clear f1 fb hSw
                    unfold wpLexE
                    go_wp2_with fail
                    refine bodyPost_ret (v := .tuple #[.agg cZ, .int .i64 3]) (results_cell_slot rfl _ _ (w.heap.size + 1) 48 cZ (0, 0) _ rfl HRES.out Tryz.underlying48 rfl hi48 _ rfl) rfl ⟨nilV, nilV, by rw [HV.out, HCZ.out], by rw [HV.out]; exact ⟨⟨none, 0, rfl, fun h => absurd h (Nat.lt_irrefl 0)⟩, ⟨none, 0, rfl, fun h => absurd h (Nat.lt_irrefl 0)⟩⟩, HBR.out⟩
                  | true =>
                    rw [hz, Bool.true_and] at HRD
                    clear hz
                    have KS := HLz.out.st
                    have g0 : wz.cell? ⟨w.heap.size, 0, none⟩ = some (.slice A m c) := HLz.out.geo.at_ rfl
                    have g1 : wz.cell? ⟨w.heap.size, 1, none⟩ = some (.int .i64 secs) := HLz.out.geo.at_ rfl
                    have hi48s : (Tryz.prog.info? 48).map (·.size) = some (stC S sv tv).size := by rw [stC_size]; kernel_rfl
                    have HRT := Lib.hid (mright_any A m c gs secs S sv tv (HGW.out wz HDz.out) HSTz.out HSLN.out.1 HSLN.out.2 HCAP.out)
                    go_wp2_with ((with_reducible refine wpList_load_want ?qw 48 (.tmp 7) ?q2 sb ?q3 48 (stC S sv tv) _ KS Tryz.underlying48 rfl hi48s ?_); (case q2 => rfl); (case q3 => rfl); (case qw => rfl); simp only [Act.put, List.setIfInBounds_toArray, List.set_cons_zero, List.set_cons_succ])
                    refine HRT.out.mono ?_
                    rintro x wq ⟨rfl, bq⟩
                    have HLq := Lib.hid (HLz.out.below bq)
                    have HDq := Lib.hid (keep_below bq HDz.out)
                    have HSTq := Lib.hid (HSTz.out.below bq)
                    have HBq := Lib.hid (keep_below bq HBz.out)
                    clear bq g0 g1 KS HLz HDz HSTz HRT
                    cases hm : mRight gs secs S with
                    | false =>
                      have HV : Hid (rdS gs secs l = (stZ, 3)) := Lib.hid (by rw [HRD.out, hm]; rfl)
                      clear hm HRD
                      have k1 : wq.cell? ⟨r, 1, none⟩ = some (.int .i64 0) := HLq.out.rd.own.at_ rfl
                      have z1 : wq.frozen? ⟨r, 1, none⟩ = false := HLq.out.rd.own.fr 1
                      obtain ⟨wy, hwy⟩ : ∃ y, wq.setCell ⟨r, 1, none⟩ (.int .i64 3) = y := ⟨_, rfl⟩
                      have HLy : Hid (RLoc wy w.heap.size (w.heap.size + 1) r (w.heap.size + 2) sb l #[.slice A m c, .int .i64 secs] (stC S sv tv) pq 3) := Lib.hid (by rw [← hwy]; exact HLq.out.err HN.out 3)
                      have HDy : Hid (Below w.heap.size w wy) := Lib.hid (by rw [← hwy]; exact below_set HDq.out _ _ _ (by have := HN.out.y4; show w.heap.size ≤ r; omega))
                      have HWY := Lib.hid hwy
                      clear hwy
                      repeat' (first
                        | go_values
                        | go_skip
                        | go_guarded
                        | ((fail_if_success (with_reducible refine drawn_mark ?_))
                           first
                             | go_step
                             | go_upon
                             | go_back
                             | (simp only [Int.not_lt, Int.not_le] at *; go_simp)
                             | (go_values <;> (try go_simp))
                             | (go_ite <;> go_prune <;> (try go_simp))
                             | (split <;> (first | (rename_i hx; exact (hx _ rfl).elim) | go_prune))))
                      rw [HWY.out]
                      clear k1 z1 HWY
                      obtain ⟨S0, hS0⟩ : ∃ S0 : World → Prop, S0 = fun W => W.heap[r]? = wy.heap[r]? := ⟨_, rfl⟩
                      have f1 : ∀ W, S0 W → W.cell? ⟨r, 1, none⟩ = some (.int .i64 3) := fun W hW => by rw [hS0] at hW; exact (show Blk W _ _ _ from hW.trans HLy.out.rd.own).at_ rfl
                      have fb : ∀ W, S0 W → (Instr.build 48 #[]).run Tryz.prog W = .ok (.agg cZ) W := fun W _ => by rw [HCZ.out]; exact build_stZ W
                      have hSw : S0 wy.drew := by rw [hS0]; rfl
                      have HLd : Hid (RLoc wy.drew w.heap.size (w.heap.size + 1) r (w.heap.size + 2) sb l #[.slice A m c, .int .i64 secs] (stC S sv tv) pq 3) := Lib.hid (HLy.out.same HN.out (fun i _ => rfl))
                      have hth : wy.drew.there (w.heap.size + 1) 0 cZ.size := HLd.out.zer.there (by rw [HCZ.out]; exact Nat.le_refl 24)
                      have HRES : Hid (Blk (wy.drew.setCells (w.heap.size + 1) 0 cZ.toList) (w.heap.size + 1) 48 cZ) := Lib.hid (HLd.out.zer.putAll cZ (by rw [HCZ.out]; rfl))
                      have HBR : Hid (Below w.heap.size w (wy.drew.setCells (w.heap.size + 1) 0 cZ.toList)) := Lib.hid (below_sets _ _ (below_drew' HDy.out) (by omega))
                      have hSr : S0 (wy.drew.setCells (w.heap.size + 1) 0 cZ.toList) := by rw [hS0]; exact sets_far _ _ _ _ trivial (by have := HN.out.y4; omega)
                      clear hS0
                      refine wp_region_effA S0 [5] (by kernel_rfl) (by kernel_rfl) (by kernel_rfl) hSw ?_
                      refine wpLexE_take 5 (by kernel_rfl) (by kernel_rfl) ?_
                      simp only [List.take_succ_cons, List.take_zero, List.drop_succ_cons, List.drop_zero]
                      repeat (first
                        | go_big_quiet_skip
                        | (go_big_quiet_want
                           go_big_quiet_op
                           first
                             | go_big_quiet_on
                             | (apply Exists.intro
                                refine ⟨fun W hW => ?_, ?_⟩
                                · first
                                    | exact rfl
                                    | exact ⟨rfl, rfl⟩
                                    | (have e0 := f1 W hW; have e1 := fb W hW; simp only [e0, e1, Result.andThen_ok]; done)
                                    | (have e0 := f1 W hW; have e1 := fb W hW; simp only [e0, e1, Result.andThen_ok]; first | exact ⟨trivial, rfl⟩ | exact rfl | exact ⟨rfl, rfl⟩)
                                    | (skip)
                                go_big_quiet_on)))
                      refine wpQuiet_nil ?_
                      show wpLexE _ _ _ _ _ _ _ _ _
                      refine wpLexE_eff (by kernel_rfl) rfl ?_
                      rw [show (#[.int .i64 0, .int .i64 0, .int .i64 0, .int .i64 0, .int .i64 0, .bool false, .int .i64 0, .int .i64 0, .int .i64 0, .int .u64 0, .int .u64 0, .int .u64 0, .int .u64 0, .slice none 0 0, .int .i64 0, .int .i64 0, .int .i64 0, .int .i64 0, .int .i64 0, .int .i64 0, .int .i64 0, .int .i64 0, .int .i64 0, .slice none 0 0] : Array Value) = cZ by rw [HCZ.out]; rfl]
                      go_wp2_with ((with_reducible refine wpList_store_mid ?a1 48 (.tmp 4) (.tmp 104) ?a2 (w.heap.size + 1) 0 cZ ?a3 ?a4 hth hi48 h1c ?_); (case a2 => rfl); (case a3 => rfl); (case a4 => rfl); (case a1 => rfl); simp only [Act.put, List.setIfInBounds_toArray, List.set_cons_zero, List.set_cons_succ])
                      refine ⟨rfl, hSr, ?_⟩
                      refine wpLexE_take 1 (by kernel_rfl) (by kernel_rfl) ?_
                      simp only [List.take_succ_cons, List.take_zero, List.drop_succ_cons, List.drop_zero]
                      repeat (first
                        | go_big_quiet_skip
                        | (go_big_quiet_want
                           go_big_quiet_op
                           first
                             | go_big_quiet_on
                             | (apply Exists.intro
                                refine ⟨fun W hW => ?_, ?_⟩
                                · first
                                    | exact rfl
                                    | exact ⟨rfl, rfl⟩
                                    | (have e0 := f1 W hW; have e1 := fb W hW; simp only [e0, e1, Result.andThen_ok]; done)
                                    | (have e0 := f1 W hW; have e1 := fb W hW; simp only [e0, e1, Result.andThen_ok]; first | exact ⟨trivial, rfl⟩ | exact rfl | exact ⟨rfl, rfl⟩)
                                    | (skip)
                                go_big_quiet_on)))
                      refine wpQuiet_nil ?_
                      show wpLexE _ _ _ _ _ _ _ _ _
                      clear f1 fb hSw
                      unfold wpLexE
                      go_wp2_with fail
                      refine bodyPost_ret (v := .tuple #[.agg cZ, .int .i64 3]) (results_cell_slot rfl _ _ (w.heap.size + 1) 48 cZ (0, 0) _ rfl HRES.out Tryz.underlying48 rfl hi48 _ rfl) rfl ⟨nilV, nilV, by rw [HV.out, HCZ.out], by rw [HV.out]; exact ⟨⟨none, 0, rfl, fun h => absurd h (Nat.lt_irrefl 0)⟩, ⟨none, 0, rfl, fun h => absurd h (Nat.lt_irrefl 0)⟩⟩, HBR.out⟩
                    | true =>
                      have HV : Hid (rdS gs secs l = (S, 0)) := Lib.hid (by rw [HRD.out, hm]; rfl)
                      clear hm HRD
                      have KS := HLq.out.st
                      have k1 : wq.cell? ⟨r, 1, none⟩ = some (.int .i64 0) := HLq.out.rd.own.at_ rfl
                      obtain ⟨A1, c1, rfl⟩ := HSTq.out.snaps.form
                      obtain ⟨A2, c2, rfl⟩ := HSTq.out.stale.form
                      have h1s := stC_one S A1 A2 S.snaps.length c1 S.stale.length c2
                      have hth : wq.there (w.heap.size + 1) 0 (stC S (.slice A1 S.snaps.length c1) (.slice A2 S.stale.length c2)).size := HLq.out.zer.there (Nat.le_refl 24)
                      have HRES : Hid (Blk (wq.setCells (w.heap.size + 1) 0 (stC S (.slice A1 S.snaps.length c1) (.slice A2 S.stale.length c2)).toList) (w.heap.size + 1) 48 (stC S (.slice A1 S.snaps.length c1) (.slice A2 S.stale.length c2))) := Lib.hid (HLq.out.zer.putAll _ rfl)
                      have HBR : Hid (Below w.heap.size w (wq.setCells (w.heap.size + 1) 0 (stC S (.slice A1 S.snaps.length c1) (.slice A2 S.stale.length c2)).toList)) := Lib.hid (below_sets _ _ HDq.out (by omega))
                      go_wp2_with (first
                        | ((with_reducible refine wpList_load_want ?qw 48 (.tmp 7) ?q2 sb ?q3 48 (stC S (.slice A1 S.snaps.length c1) (.slice A2 S.stale.length c2)) _ KS Tryz.underlying48 rfl hi48s ?_); (case q2 => rfl); (case q3 => rfl); (case qw => rfl); simp only [Act.put, List.setIfInBounds_toArray, List.set_cons_zero, List.set_cons_succ])
                        | ((with_reducible refine wpList_store_mid ?a1 48 (.tmp 4) (.tmp 109) ?a2 (w.heap.size + 1) 0 (stC S (.slice A1 S.snaps.length c1) (.slice A2 S.stale.length c2)) ?a3 ?a4 hth hi48s h1s ?_); (case a2 => rfl); (case a3 => rfl); (case a4 => rfl); (case a1 => rfl); simp only [Act.put, List.setIfInBounds_toArray, List.set_cons_zero, List.set_cons_succ]))
                      refine bodyPost_ret (v := .tuple #[.agg (stC S (.slice A1 S.snaps.length c1) (.slice A2 S.stale.length c2)), .int .i64 0]) (results_cell_slot rfl _ _ (w.heap.size + 1) 48 _ (0, 0) _ rfl HRES.out Tryz.underlying48 rfl hi48s _ rfl) rfl ⟨_, _, by rw [HV.out], by rw [HV.out]; exact HST.out _ (fun i h1 h2 => (sets_far _ _ _ _ trivial (by have := HN.out.y4; have := HN.out.y5; omega)).trans (HBq.out.block i h2)), HBR.out⟩
                · have hbe : (eq == 0) = false := beq_eq_false_iff_ne.2 he
                  have hbn : (eq != 0) = true := bne_iff_ne.2 he
                  have HV : Hid (rdS gs secs l = (stZ, eq)) := Lib.hid (by rw [HRD.out, if_neg he])
                  clear he HRD
                  repeat' (first
                    | go_values
                    | go_skip
                    | go_guarded
                    | ((fail_if_success (with_reducible refine drawn_mark ?_))
                       first
                         | go_step
                         | go_upon
                         | go_back
                         | (simp only [Int.not_lt, Int.not_le] at *; go_simp)
                         | (go_values <;> (try go_simp))
                         | (go_ite <;> go_prune <;> (try go_simp))
                         | (split <;> (first | (rename_i hx; exact (hx _ rfl).elim) | go_prune))))
                  obtain ⟨S0, hS0⟩ : ∃ S0 : World → Prop, S0 = fun W => W.heap[r]? = wr.heap[r]? := ⟨_, rfl⟩
                  have f1 : ∀ W, S0 W → W.cell? ⟨r, 1, none⟩ = some (.int .i64 eq) := fun W hW => by rw [hS0] at hW; exact (show Blk W _ _ _ from hW.trans HLq.out.rd.own).at_ rfl
                  have fb : ∀ W, S0 W → (Instr.build 48 #[]).run Tryz.prog W = .ok (.agg cZ) W := fun W _ => by rw [HCZ.out]; exact build_stZ W
                  have hSw : S0 wr.drew := by rw [hS0]; rfl
                  have HLd : Hid (RLoc wr.drew w.heap.size (w.heap.size + 1) r (w.heap.size + 2) sb l #[.slice A m c, .int .i64 secs] (stC S sv tv) pq eq) := Lib.hid (HLq.out.same HN.out (fun i _ => rfl))
                  have hth : wr.drew.there (w.heap.size + 1) 0 cZ.size := HLd.out.zer.there (by rw [HCZ.out]; exact Nat.le_refl 24)
                  have HRES : Hid (Blk (wr.drew.setCells (w.heap.size + 1) 0 cZ.toList) (w.heap.size + 1) 48 cZ) := Lib.hid (HLd.out.zer.putAll cZ (by rw [HCZ.out]; rfl))
                  have HBR : Hid (Below w.heap.size w (wr.drew.setCells (w.heap.size + 1) 0 cZ.toList)) := Lib.hid (below_sets _ _ (below_drew' HD.out) (by omega))
                  have hSr : S0 (wr.drew.setCells (w.heap.size + 1) 0 cZ.toList) := by rw [hS0]; exact sets_far _ _ _ _ trivial (by have := HN.out.y4; omega)
                  clear hS0
                  refine wp_region_effA S0 [5] (by kernel_rfl) (by kernel_rfl) (by kernel_rfl) hSw ?_
                  refine wpLexE_take 5 (by kernel_rfl) (by kernel_rfl) ?_
                  simp only [List.take_succ_cons, List.take_zero, List.drop_succ_cons, List.drop_zero]
                  repeat (first
                    | go_big_quiet_skip
                    | (go_big_quiet_want
                       go_big_quiet_op
                       first
                         | go_big_quiet_on
                         | (apply Exists.intro
                            refine ⟨fun W hW => ?_, ?_⟩
                            · first
                                | exact rfl
                                | exact ⟨rfl, rfl⟩
                                | (have e0 := f1 W hW; have e1 := fb W hW; simp only [e0, e1, Result.andThen_ok]; done)
                                | (have e0 := f1 W hW; have e1 := fb W hW; simp only [e0, e1, Result.andThen_ok]; first | exact ⟨trivial, rfl⟩ | exact rfl | exact ⟨rfl, rfl⟩)
                                | (skip)
                            go_big_quiet_on)))
                  refine wpQuiet_nil ?_
                  show wpLexE _ _ _ _ _ _ _ _ _
                  refine wpLexE_eff (by kernel_rfl) rfl ?_
                  rw [show (#[.int .i64 0, .int .i64 0, .int .i64 0, .int .i64 0, .int .i64 0, .bool false, .int .i64 0, .int .i64 0, .int .i64 0, .int .u64 0, .int .u64 0, .int .u64 0, .int .u64 0, .slice none 0 0, .int .i64 0, .int .i64 0, .int .i64 0, .int .i64 0, .int .i64 0, .int .i64 0, .int .i64 0, .int .i64 0, .int .i64 0, .slice none 0 0] : Array Value) = cZ by rw [HCZ.out]; rfl]
                  go_wp2_with ((with_reducible refine wpList_store_mid ?a1 48 (.tmp 4) (.tmp 104) ?a2 (w.heap.size + 1) 0 cZ ?a3 ?a4 hth hi48 h1c ?_); (case a2 => rfl); (case a3 => rfl); (case a4 => rfl); (case a1 => rfl); simp only [Act.put, List.setIfInBounds_toArray, List.set_cons_zero, List.set_cons_succ])
                  refine ⟨rfl, hSr, ?_⟩
                  refine wpLexE_take 1 (by kernel_rfl) (by kernel_rfl) ?_
                  simp only [List.take_succ_cons, List.take_zero, List.drop_succ_cons, List.drop_zero]
                  repeat (first
                    | go_big_quiet_skip
                    | (go_big_quiet_want
                       go_big_quiet_op
                       first
                         | go_big_quiet_on
                         | (apply Exists.intro
                            refine ⟨fun W hW => ?_, ?_⟩
                            · first
                                | exact rfl
                                | exact ⟨rfl, rfl⟩
                                | (have e0 := f1 W hW; have e1 := fb W hW; simp only [e0, e1, Result.andThen_ok]; done)
                                | (have e0 := f1 W hW; have e1 := fb W hW; simp only [e0, e1, Result.andThen_ok]; first | exact ⟨trivial, rfl⟩ | exact rfl | exact ⟨rfl, rfl⟩)
                                | (skip)
                            go_big_quiet_on)))
                  refine wpQuiet_nil ?_
                  show wpLexE _ _ _ _ _ _ _ _ _
                  clear f1 fb hSw
                  unfold wpLexE
                  go_wp2_with fail
                  refine bodyPost_ret (v := .tuple #[.agg cZ, .int .i64 eq]) (results_cell_slot rfl _ _ (w.heap.size + 1) 48 cZ (0, 0) _ rfl HRES.out Tryz.underlying48 rfl hi48 _ rfl) rfl ⟨nilV, nilV, by rw [HV.out, HCZ.out], by rw [HV.out]; exact ⟨⟨none, 0, rfl, fun h => absurd h (Nat.lt_irrefl 0)⟩, ⟨none, 0, rfl, fun h => absurd h (Nat.lt_irrefl 0)⟩⟩, HBR.out⟩
end Go.Proofs.YtidmbibpoldgcaaGreatDoor
