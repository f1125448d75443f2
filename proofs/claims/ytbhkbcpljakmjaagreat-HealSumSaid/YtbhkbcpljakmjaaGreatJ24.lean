/-
  What a round keeps; contracts of package code: mirror.
  Rows of whole numbers.
  cols.Devs: the devices of columns, each once, rising.
  Contracts of package code: parity's parts: slices.Clone of columns, the predicate, cols.Devs of the data.
-/
import Derived.Test.YtbhkbcpljakmjaaGreatJ23
import Derived.WalkKit
import Derived.Test.YtbhkbcpljakmjaaGreatJ13
import Derived.Test.YtbhkbcpljakmjaaGreatJ19
import Derived.Test.YtbhkbcpljakmjaaGreatShelf
import Derived.Sort.OwnSortedInts
namespace Go.Proofs.YtbhkbcpljakmjaaGreat
set_option linter.unusedVariables false
set_option linter.unusedSimpArgs false
open Go.RowKit
attribute [local go_sem] Oper.semAt_some

/-- A round writes only the cells of V. -/
def KC (V : Nat → Prop) (W W' : World) : Prop := W.heap.size ≤ W'.heap.size ∧ ∀ b o v, ¬ V b → W.cell? ⟨b, o, none⟩ = some v → W'.cell? ⟨b, o, none⟩ = some v
theorem KC.refl (V : Nat → Prop) (W : World) : KC V W W := ⟨Nat.le_refl _, fun _ _ _ _ h => h⟩
theorem KC.trans {V : Nat → Prop} {A B C : World} (h : KC V A B) (k : KC V B C) : KC V A C := ⟨Nat.le_trans h.1 k.1, fun b o v hb hc => k.2 b o v hb (h.2 b o v hb hc)⟩
theorem kc_below {V : Nat → Prop} {W W' : World} (h : Below W.heap.size W W') : KC V W W' := ⟨h.size, fun b o v _ hc => by
  have hl : b < W.heap.size := World.block_lt_of_cell? W _ hc
  exact (World.cell?_of_block (h.block b hl)).trans hc⟩
/-- A slice that no round writes. -/
def SlV (W : World) (V : Nat → Prop) (v : Value) (n : Nat) (cs : List Value) : Prop :=
  ∃ A c, v = .slice A n c ∧ n ≤ c ∧ (0 < n → ∃ b o, A = some ⟨b, o, none⟩ ∧ b < W.heap.size ∧ ¬ V b ∧ ∀ j u, cs[j]? = some u → W.cell? ⟨b, o + j, none⟩ = some u)
section
variable {W W' : World} {V : Nat → Prop} {v : Value} {n : Nat} {cs : List Value}
theorem SlV.kc (h : SlV W V v n cs) (hk : KC V W W') : SlV W' V v n cs := by
  obtain ⟨A, c, h1, hc, h2⟩ := h
  refine ⟨A, c, h1, hc, fun hp => ?_⟩
  obtain ⟨b, o, e1, e2, e3, e5⟩ := h2 hp
  exact ⟨b, o, e1, Nat.lt_of_lt_of_le e2 hk.1, e3, fun j u hu => hk.2 _ _ _ e3 (e5 j u hu)⟩
theorem SlV.form (h : SlV W V v n cs) : ∃ A c, v = .slice A n c := by
  obtain ⟨A, c, h1, _⟩ := h
  exact ⟨A, c, h1⟩
end
theorem SlV.to {W : World} {V : Nat → Prop} {v : Value} {n : Nat} {cs : List Value} (h : SlV W V v n cs) : SlAt W v n cs := by
  obtain ⟨A, c, h1, hc, h2⟩ := h
  refine ⟨A, c, h1, hc, fun hp => ?_⟩
  obtain ⟨b, o, e1, e2, _, e5⟩ := h2 hp
  exact ⟨b, o, e1, e2, e5⟩
/-- A part of it. -/
theorem SlV.part {W : World} {V : Nat → Prop} {b o n c : Nat} {l : List (List UInt8)} (h : SlV W V (.slice (some ⟨b, o, none⟩) n c) n (strC l)) (hl : l.length = n) (hp : 0 < n) (i k : Nat) (hik : i + k ≤ n) :
    SlAt W (.slice (some ⟨b, o + i, none⟩) k (c - i)) k (strC ((l.drop i).take k)) := by
  obtain ⟨A, c', h1, hc, h2⟩ := h
  cases h1
  obtain ⟨b', o', e1, e2, _, e5⟩ := h2 hp
  cases e1
  refine ⟨_, _, rfl, by omega, fun hk => ⟨b, o + i, rfl, e2, fun j u hu => ?_⟩⟩
  rw [Nat.add_assoc]
  refine e5 (i + j) u ?_
  rw [strC_map] at hu ⊢
  rw [List.getElem?_map] at hu ⊢
  rw [List.getElem?_take] at hu
  split at hu
  · rw [List.getElem?_drop] at hu
    exact hu
  · cases hu
theorem grown_below {W W' : World} (h : Below W.heap.size W W') : W.grownBy W' none := ⟨h.os, h.tape, h.output, h.size, fun i hi _ => h.block i hi⟩
theorem abides_below {β : Type} {B : Nat} {J : β → World → Prop} (hJ : AbidesFrom B J) {s : β} {W W' : World} (h : J s W) (hb : Below W.heap.size W W') : J s W' := hJ s W W' none h (grown_below hb) (fun r e => by cases e)
theorem _root_.Go.RoundIn.anyDepth' {F : Fence} (hd : F.depth = none) {m m' : Nat} {P : Program} {l : Nat} {f : FuncId} {tmps : Array Value} {assign body : Code} {w : World} {R : Ending → World → Prop} (h : RoundIn F m P l f tmps assign body w R) : RoundIn F m' P l f tmps assign body w R :=
  ⟨h.1, fun c cs _ => h.2 c cs (fun k hk => by rw [hd] at hk; cases hk)⟩
theorem yield_any {F : Fence} (hd : F.depth = none) {m : Nat} (m' : Nat) {P : Program} {l : Nat} {args : Array Value} {W : World} {R : Ending → World → Prop} (h : YieldAt F m P l args W R) : YieldAt F m' P l args W R := by
  obtain ⟨fn, tmps, assign, body, hy, hR⟩ := h
  exact ⟨fn, tmps, assign, body, hy, RoundIn.anyDepth' hd hR⟩
theorem mirT_prefix (L : List Col) (sz : Nat) (got : List (List UInt8)) {k m : Nat} (h : k ≤ m) : mirT L sz got k <+: mirT L sz got m := by
  induction m with
  | zero => obtain rfl : k = 0 := by omega
            exact List.prefix_refl _
  | succ m ih =>
    by_cases e : k = m + 1
    · subst e; exact List.prefix_refl _
    · rw [mirT_step]
      exact (ih (by omega)).trans (List.prefix_append _ _)
abbrev TryX := Int × List UInt8
def tryE (x : TryX) : Array Value := #[.int .i64 x.1, str x.2]
set_option maxRecDepth 20000 in
set_option maxHeartbeats 2000000 in
theorem mirror_in (n : Nat) {L : List Col} {got : List (List UInt8)} {sz wd : Nat} {Pn : List TryX → Prop} (l : Nat) {V : Nat → Prop} {J Jx : List TryX → World → Prop} {lv gv : Value} {W : World} (hL : SlV W V lv L.length (colsCells L)) (hG : SlV W V gv got.length (strC got))
    (hlen : L.length = wd * sz) (hgl : got.length = L.length) (h1 : 1 ≤ sz) (hL64 : L.length ≤ 64) (h64 : ∀ s ∈ got, s.length ≤ 64) (hJ : AbidesFrom W.heap.size J)
    (hY : ∀ pre x W1, J pre W1 → Pn (pre ++ [x]) → YieldAt Fence.wide (n - 1) Tryz.prog l (tryE x) W1 fun e W' => (e = .returned (.bool true) ∧ J (pre ++ [x]) W' ∧ KC V W1 W') ∨ (e = .returned (.bool false) ∧ Jx (pre ++ [x]) W'))
    (hN : ∀ p, p <+: mirT L sz got wd → Pn p) (h0 : J [] W) :
    CallsIn Fence.wide n Tryz.prog 89 #[lv, .int .i64 sz, gv, .func (.yield l) #[] #[]] W fun e W' => (∃ v, e = .returned v) ∧ ((∃ xs, xs = mirT L sz got wd ∧ J xs W') ∨ (∃ pre, pre <+: mirT L sz got wd ∧ Jx pre W')) := by
  obtain ⟨Al, cl, rfl⟩ := hL.form
  obtain ⟨Ag, cg, rfl⟩ := hG.form
  rw [hgl] at hG ⊢
  have HL := Lib.hid hL
  have HG := Lib.hid hG
  have HGL := Lib.hid hgl
  have HLEN := Lib.hid hlen
  have H64 := Lib.hid h64
  have HJ := Lib.hid hJ
  have HY := Lib.hid hY
  have HN := Lib.hid hN
  have HJ0 := Lib.hid h0
  clear hL hG hgl hlen h64 hJ hY hN h0
  refine callsIn_of_wp Tryz.func89 rfl trivial ?_ rfl
  simp only [Tryz.ntmps89, List.size_toArray, List.length_cons, List.length_nil, Nat.reduceAdd, Nat.reduceSub, Array.replicate_succ, Array.replicate_zero, List.push_toArray, List.append_toArray, List.nil_append, List.cons_append]
  gi_wp2_with fail
  gi_loopw [8, 9] (fun i _ wr => ∃ k i0 : Nat, k ≤ wd ∧ i0 = k * sz ∧ i = .int .i64 i0 ∧ J (mirT L sz got k) wr ∧ KC V W wr ∧ W.heap.size ≤ wr.heap.size) (fun i _ _ => L.length - (RowKit.intOf i).toNat)
  case atStart => exact ⟨0, 0, Nat.zero_le _, by simp, rfl, HJ0.out, KC.refl _ _, Nat.le_refl _⟩
  case round =>
    obtain ⟨k, i0, hk, hi0, rfl, hJk, hkc, hszw⟩ := hrel
    have HJK := Lib.hid hJk
    have HKC := Lib.hid hkc
    have HSZ := Lib.hid hszw
    have HI0 := Lib.hid hi0
    clear hJk hkc hszw
    by_cases hlt : k < wd
    · have hks : i0 + sz ≤ L.length := by
        rw [HLEN.out, hi0, ← Nat.succ_mul]
        exact Nat.mul_le_mul_right sz hlt
      clear hi0
      have HLT := Lib.hid hlt
      have hil : i0 < L.length := by omega
      have hdc : decide (i0 < L.length) = true := decide_eq_true (by omega)
      obtain ⟨x, hx⟩ : ∃ x, L[i0]? = some x := ⟨_, List.getElem?_eq_getElem hil⟩
      have hl2 := HL.out.kc HKC.out
      have hg2 := HG.out.kc HKC.out
      obtain ⟨_, c1, e1, hcl, hcell⟩ := hl2
      cases e1
      obtain ⟨b, o, rfl, hbl, hbV, hcc⟩ := hcell (by omega)
      have hg3 := hg2
      obtain ⟨_, c2, e2, hcg, hcell2⟩ := hg2
      cases e2
      obtain ⟨b2, o2, rfl, hbl2, hbV2, hcc2⟩ := hcell2 (by omega)
      obtain ⟨P, hP⟩ : ∃ P, P = mirPart sz got k := ⟨_, rfl⟩
      have hPl : P.length = sz := by
        rw [hP]
        unfold mirPart
        rw [List.length_take, List.length_drop, ← HI0.out]
        have := HGL.out
        omega
      have hpart := hg3.part HGL.out (by omega) i0 sz hks
      rw [HI0.out] at hpart
      rw [show (got.drop (k * sz)).take sz = P from hP.symm, ← HI0.out] at hpart
      have HCE := Lib.hid (conE_any (w := wr) (ss := P) (by rw [hPl]; exact hpart) (by omega))
      have hstep := mirT_step L sz got k
      have HST := Lib.hid hstep
      have HPP := Lib.hid (And.intro hP hPl)
      have HX := Lib.hid hx
      have HPA := Lib.hid hpart
      have HC0 := Lib.hid (hcc _ _ (colsCells_at hx).1)
      have HBL := Lib.hid (And.intro hbl hbl2)
      clear hlt hx hcell hcell2 hcc hcc2 hg3 hP hPl hpart hstep hbV hbV2 hbl hbl2 HCE
      gi_wp2_with fail
      rw [show i0 + sz - i0 = sz by omega]
      obtain ⟨S0, hS0⟩ : ∃ S0 : World → Prop, S0 = fun W' => Below wr.heap.size wr W' := ⟨_, rfl⟩
      have hSw : S0 wr.drew := by rw [hS0]; exact (Below.refl _ _).drew
      have f0 : ∀ W', S0 W' → W'.cell? ⟨b, o + i0 * 4, none⟩ = some (.int .i64 x.1) := fun W' h => by rw [hS0] at h; exact keep_cell h HC0.out HBL.out.1
      have hce := conE_any (w := wr.drew) (ss := P) (by rw [HPP.out.2]; exact HPA.out.below (Below.refl _ _).drew) (by have := HPP.out.2; omega)
      have HS0 := Lib.hid hS0
      cases hE : hasE P with
      | true =>
        rw [hE] at hce
        have HCE := Lib.hid hce
        have HT : Hid (mirT L sz got (k + 1) = mirT L sz got k) := Lib.hid (by rw [HST.out]; unfold mirOne; rw [← HPP.out.1, hE]; simp)
        clear hce hE hS0
        refine wpIn_region_plan wide_wide S0 [1, 3, 11, 12] (Pl.Plan.seg 0 1 (.op 1 (Pl.Plan.seg 2 1 (.op 3 (Pl.Plan.seg 4 7 (.op 11 (.op 12 (Pl.Plan.seg 13 2 .done)))))))) (by kernel_rfl) (by kernel_rfl) (by kernel_rfl) hSw ?_
        refine Pl.wpPlan_take (k := 0) 1 (by kernel_rfl) (by kernel_rfl) ?_
        simp only [List.take_succ_cons, List.take_zero, List.drop_succ_cons, List.drop_zero]
        repeat (first
          | go_big_quiet_skip
          | (go_big_quiet_want
             go_big_quiet_op
             first
               | go_big_quiet_on
               | (apply Exists.intro
                  refine ⟨fun W hW => ?_, ?_⟩
                  · first
                      | exact rfl
                      | exact ⟨rfl, rfl⟩
                      | (have e0 := f0 W hW; simp only [e0, Result.andThen_ok]; done)
                      | (have e0 := f0 W hW; simp only [e0, Result.andThen_ok]; first | exact ⟨trivial, rfl⟩ | exact rfl | exact ⟨rfl, rfl⟩)
                      | (skip)
                  go_big_quiet_on)))
        refine wpQuiet_nil ?_
        refine Pl.efOp_any rfl rfl ?_
        go_wp2_with fail
        refine HCE.out.mono ?_
        rintro e w4 ⟨rfl, hb4⟩
        have hb4' : Below wr.heap.size wr w4 := ⟨hb4.os, hb4.tape, hb4.output, hb4.size, fun i hi => hb4.block i hi⟩
        have hS4 : S0 w4 := by rw [HS0.out]; exact hb4'
        have HB4 := Lib.hid hb4'
        clear hb4 hb4'
        go_wp2_with fail
        refine ⟨rfl, hS4, ?_⟩
        refine Pl.wpPlan_take (k := 2) 1 (by kernel_rfl) (by kernel_rfl) ?_
        simp only [List.take_succ_cons, List.take_zero, List.drop_succ_cons, List.drop_zero]
        repeat (first
          | go_big_quiet_skip
          | (go_big_quiet_want
             go_big_quiet_op
             first
               | go_big_quiet_on
               | (apply Exists.intro
                  refine ⟨fun W hW => ?_, ?_⟩
                  · first
                      | exact rfl
                      | exact ⟨rfl, rfl⟩
                      | (have e0 := f0 W hW; simp only [e0, Result.andThen_ok]; done)
                      | (have e0 := f0 W hW; simp only [e0, Result.andThen_ok]; first | exact ⟨trivial, rfl⟩ | exact rfl | exact ⟨rfl, rfl⟩)
                      | (skip)
                  go_big_quiet_on)))
        refine wpQuiet_nil ?_
        refine plan_readH hS4 rfl rfl (by kernel_rfl) ?_
        repeat (first
          | go_big_quiet_skip
          | (go_big_quiet_want
             go_big_quiet_op
             first
               | go_big_quiet_on
               | (apply Exists.intro
                  refine ⟨fun W hW => ?_, ?_⟩
                  · first
                      | exact rfl
                      | exact ⟨rfl, rfl⟩
                      | (have e0 := f0 W hW; simp only [e0, Result.andThen_ok]; done)
                      | (have e0 := f0 W hW; simp only [e0, Result.andThen_ok]; first | exact ⟨trivial, rfl⟩ | exact rfl | exact ⟨rfl, rfl⟩)
                      | (skip)
                  go_big_quiet_on)))
        refine wpQuiet_nil ?_
        refine Held.mk ?_
        with_reducible refine plan_takeH (k := 4) 7 ?xx1 ?yy1 ?zz1
        case xx1 => kernel_rfl
        case yy1 => kernel_rfl
        simp only [List.take_succ_cons, List.take_zero, List.drop_succ_cons, List.drop_zero]
        repeat (first
          | go_big_quiet_skip
          | (go_big_quiet_want
             go_big_quiet_op
             first
               | go_big_quiet_on
               | (apply Exists.intro
                  refine ⟨fun W hW => ?_, ?_⟩
                  · first
                      | exact rfl
                      | exact ⟨rfl, rfl⟩
                      | (have e0 := f0 W hW; simp only [e0, Result.andThen_ok]; done)
                      | (have e0 := f0 W hW; simp only [e0, Result.andThen_ok]; first | exact ⟨trivial, rfl⟩ | exact rfl | exact ⟨rfl, rfl⟩)
                      | (skip)
                  go_big_quiet_on)))
        refine wpQuiet_nil ?_
        refine Held.mk ?_
        with_reducible refine plan_skip (d := some 34) (o := ?oo2) (rest := ?rr2) ?xx2 ?vv2 ?yy2 ?zz2
        case xx2 => rfl
        case vv2 => rfl
        case yy2 => rfl
        with_reducible refine plan_skip (d := some 35) (o := ?oo3) (rest := ?rr3) ?xx3 ?vv3 ?yy3 ?zz3
        case xx3 => rfl
        case vv3 => rfl
        case yy3 => rfl
        with_reducible refine plan_takeH (k := 13) 2 ?xx4 ?yy4 ?zz4
        case xx4 => kernel_rfl
        case yy4 => kernel_rfl
        simp only [Act.put, List.setIfInBounds_toArray, List.set_cons_succ, List.set_cons_zero, List.take_succ_cons, List.take_zero, List.drop_succ_cons, List.drop_zero]
        repeat (first
          | go_big_quiet_skip
          | (go_big_quiet_want
             go_big_quiet_op
             first
               | go_big_quiet_on
               | (apply Exists.intro
                  refine ⟨fun W hW => ?_, ?_⟩
                  · first
                      | exact rfl
                      | exact ⟨rfl, rfl⟩
                      | (have e0 := f0 W hW; simp only [e0, Result.andThen_ok]; done)
                      | (have e0 := f0 W hW; simp only [e0, Result.andThen_ok]; first | exact ⟨trivial, rfl⟩ | exact rfl | exact ⟨rfl, rfl⟩)
                      | (skip)
                  go_big_quiet_on)))
        refine wpQuiet_nil ?_
        refine Held.mk ?_
        simp only [Pl.wpPlan]
        have HKF : Hid (J (mirT L sz got (k + 1)) w4 ∧ KC V W w4 ∧ W.heap.size ≤ w4.heap.size) := Lib.hid ⟨by rw [HT.out]; exact abides_below HJ.out HJK.out HB4.out, HKC.out.trans (kc_below HB4.out), Nat.le_trans HSZ.out HB4.out.size⟩
        clear f0 hSw hS4
        gi_wp2_with fail
        go_roundw
        case rel => exact ⟨k + 1, i0 + sz, HLT.out, by rw [HI0.out, Nat.succ_mul], by go_num, HKF.out.1, HKF.out.2.1, HKF.out.2.2⟩
        case measure => simp [RowKit.intOf]; omega
      | false =>
        rw [hE] at hce
        have HCE := Lib.hid hce
        have HT : Hid (mirT L sz got (k + 1) = mirT L sz got k ++ [(x.1, P.flatten)]) := Lib.hid (by rw [HST.out]; unfold mirOne; rw [← HPP.out.1, hE, ← HI0.out, getD_at HX.out]; simp)
        have HFL : Hid (P.flatten.length ≤ 4096) := Lib.hid (by
          have h1 := flat_le (l := P) (fun s hs => by
            rw [HPP.out.1] at hs
            exact H64.out s (List.mem_of_mem_drop (List.mem_of_mem_take hs)))
          have := HPP.out.2
          omega)
        clear hce hE hS0
        refine wpIn_region_effG wide_wide S0 [1, 3, 11] 12 (by kernel_rfl) (by kernel_rfl) (by kernel_rfl) (by kernel_rfl) hSw ?_
        simp only [List.take_succ_cons, List.take_zero, List.drop_succ_cons, List.drop_zero]
        refine G.wpLexE_take 1 (by kernel_rfl) (by kernel_rfl) ?_
        simp only [List.take_succ_cons, List.take_zero, List.drop_succ_cons, List.drop_zero]
        repeat (first
          | go_big_quiet_skip
          | (go_big_quiet_want
             go_big_quiet_op
             first
               | go_big_quiet_on
               | (apply Exists.intro
                  refine ⟨fun W hW => ?_, ?_⟩
                  · first
                      | exact rfl
                      | exact ⟨rfl, rfl⟩
                      | (have e0 := f0 W hW; simp only [e0, Result.andThen_ok]; done)
                      | (have e0 := f0 W hW; simp only [e0, Result.andThen_ok]; first | exact ⟨trivial, rfl⟩ | exact rfl | exact ⟨rfl, rfl⟩)
                      | (skip)
                  go_big_quiet_on)))
        refine wpQuiet_nil ?_
        show G.wpLexE _ _ _ _ _ _ _ _ _
        refine G.wpLexE_eff (by kernel_rfl) rfl ?_
        go_wp2_with fail
        refine HCE.out.mono ?_
        rintro e w4 ⟨rfl, hb4⟩
        have hb4' : Below wr.heap.size wr w4 := ⟨hb4.os, hb4.tape, hb4.output, hb4.size, fun i hi => hb4.block i hi⟩
        have hS4 : S0 w4 := by rw [HS0.out]; exact hb4'
        have HB4 := Lib.hid hb4'
        have hjo := join_any (w := w4) (ss := P) (sv := .slice (some ⟨b2, o2 + i0, none⟩) sz (cg - i0)) (by rw [HPP.out.2]; exact HPA.out.below hb4') (by have := HPP.out.2; omega) (by have := HFL.out; omega)
        have HJO := Lib.hid hjo
        clear hb4 hb4' hjo
        go_wp2_with fail
        refine ⟨rfl, hS4, ?_⟩
        refine G.wpLexE_take 1 (by kernel_rfl) (by kernel_rfl) ?_
        simp only [List.take_succ_cons, List.take_zero, List.drop_succ_cons, List.drop_zero]
        repeat (first
          | go_big_quiet_skip
          | (go_big_quiet_want
             go_big_quiet_op
             first
               | go_big_quiet_on
               | (apply Exists.intro
                  refine ⟨fun W hW => ?_, ?_⟩
                  · first
                      | exact rfl
                      | exact ⟨rfl, rfl⟩
                      | (have e0 := f0 W hW; simp only [e0, Result.andThen_ok]; done)
                      | (have e0 := f0 W hW; simp only [e0, Result.andThen_ok]; first | exact ⟨trivial, rfl⟩ | exact rfl | exact ⟨rfl, rfl⟩)
                      | (skip)
                  go_big_quiet_on)))
        refine wpQuiet_nil ?_
        show G.wpLexE _ _ _ _ _ _ _ _ _
        refine lex_read hS4 (by kernel_rfl) rfl (by kernel_rfl) ?_
        repeat (first
          | go_big_quiet_skip
          | (go_big_quiet_want
             go_big_quiet_op
             first
               | go_big_quiet_on
               | (apply Exists.intro
                  refine ⟨fun W hW => ?_, ?_⟩
                  · first
                      | exact rfl
                      | exact ⟨rfl, rfl⟩
                      | (have e0 := f0 W hW; simp only [e0, Result.andThen_ok]; done)
                      | (have e0 := f0 W hW; simp only [e0, Result.andThen_ok]; first | exact ⟨trivial, rfl⟩ | exact rfl | exact ⟨rfl, rfl⟩)
                      | (skip)
                  go_big_quiet_on)))
        refine wpQuiet_nil ?_
        refine G.wpLexE_take 7 (by kernel_rfl) (by kernel_rfl) ?_
        simp only [List.take_succ_cons, List.take_zero, List.drop_succ_cons, List.drop_zero]
        repeat (first
          | go_big_quiet_skip
          | (go_big_quiet_want
             go_big_quiet_op
             first
               | go_big_quiet_on
               | (apply Exists.intro
                  refine ⟨fun W hW => ?_, ?_⟩
                  · first
                      | exact rfl
                      | exact ⟨rfl, rfl⟩
                      | (have e0 := f0 W hW; simp only [e0, Result.andThen_ok]; done)
                      | (have e0 := f0 W hW; simp only [e0, Result.andThen_ok]; first | exact ⟨trivial, rfl⟩ | exact rfl | exact ⟨rfl, rfl⟩)
                      | (skip)
                  go_big_quiet_on)))
        refine wpQuiet_nil ?_
        show G.wpLexE _ _ _ _ _ _ _ _ _
        refine G.wpLexE_effg (by kernel_rfl) (by rfl) ?_
        go_wp2_with fail
        refine HJO.out.mono ?_
        rintro e w5 ⟨rfl, hb5⟩
        have hS5 : S0 w5 := by rw [HS0.out]; exact HB4.out.trans (hb5.mono HB4.out.size)
        have HB5 := Lib.hid (HB4.out.trans (hb5.mono HB4.out.size))
        clear hb5 f0
        go_wp2_with fail
        refine ⟨rfl, hS5, ?_⟩
        have hJ5 : J (mirT L sz got k) w5 := abides_below HJ.out HJK.out HB5.out
        obtain ⟨fn, tmps, assign, body, hy, hR⟩ := HY.out (mirT L sz got k) (x.1, P.flatten) w5 hJ5 (HN.out _ (by rw [← HT.out]; exact mirT_prefix L sz got HLT.out))
        dsimp only [tryE] at hy
        have HR := Lib.hid hR
        clear hJ5 hR hS5 hS4 hSw
        show wpListIn _ _ _ _ _ _ _ _
        gi_wp2_with fail
        refine ⟨fun h => (by cases h), HR.out.mono ?_⟩
        rintro e w6 (⟨rfl, hJ6, hk6⟩ | ⟨rfl, hJx6⟩)
        · have HKF : Hid (J (mirT L sz got (k + 1)) w6 ∧ KC V W w6 ∧ W.heap.size ≤ w6.heap.size) := Lib.hid ⟨by rw [HT.out]; exact hJ6, (HKC.out.trans (kc_below HB5.out)).trans hk6, Nat.le_trans (Nat.le_trans HSZ.out HB5.out.size) hk6.1⟩
          clear hJ6 hk6 hy
          gi_wp2_with fail
          go_roundw
          case rel => exact ⟨k + 1, i0 + sz, HLT.out, by rw [HI0.out, Nat.succ_mul], by go_num, HKF.out.1, HKF.out.2.1, HKF.out.2.2⟩
          case measure => simp [RowKit.intOf]; omega
        · have HJX : Hid (Jx (mirT L sz got (k + 1)) w6) := Lib.hid (by rw [HT.out]; exact hJx6)
          have HPR := Lib.hid (mirT_prefix L sz got HLT.out)
          clear hJx6 hy
          gi_wp2_with fail
          refine bodyPost_ret (results_none rfl _ _ _) rfl ?_
          exact ⟨⟨_, rfl⟩, .inr ⟨_, HPR.out, HJX.out⟩⟩
    · obtain rfl : k = wd := by omega
      have hdc : decide (i0 < L.length) = false := decide_eq_false (by have := HLEN.out; have := HI0.out; omega)
      clear hi0
      gi_wp2_with fail
      go_end0
      exact ⟨⟨_, rfl⟩, .inl ⟨_, rfl, HJK.out⟩⟩
end Go.Proofs.YtbhkbcpljakmjaaGreat

namespace Go.Proofs.YtbhkbcpljakmjaaGreat
set_option linter.unusedVariables false
set_option linter.unusedSimpArgs false
open Go.RowKit

theorem Tryz.infoInt : (Tryz.prog.info? 3).map (fun i => (i.zero, i.size, i.bytes)) = some (some (.int .i64 0), 1, 8) := by kernel_rfl
theorem new1 (w : World) (u : Value) (t : TypeId) : ∀ j v, [u][j]? = some v → (w.alloc (.cells #[u] t)).cell? ((⟨w.heap.size, 0, none⟩ : Addr).add j) = some v := by
  intro j v hj
  match j, hj with
  | 0, hj => simp at hj; subst hj; simp [Addr.add]
theorem new1' {w : World} {k : Nat} {u : Value} {t : TypeId} (hk : k = w.heap.size) : ∀ j v, [u][j]? = some v → (w.alloc (.cells #[u] t)).cell? ((⟨k, 0, none⟩ : Addr).add j) = some v := by subst hk; exact new1 w u t
def intCells (l : List Int) : List Value := l.map (Value.int .i64)
theorem intCells_snoc (l : List Int) (d : Int) : intCells (l ++ [d]) = intCells l ++ [.int .i64 d] := by simp [intCells]
theorem intCells_get {l : List Int} {k : Nat} {d : Int} (h : l[k]? = some d) : (intCells l)[k]? = some (.int .i64 d) := by simp [intCells, h]
end Go.Proofs.YtbhkbcpljakmjaaGreat

namespace Go.Proofs.YtbhkbcpljakmjaaGreat
set_option linter.unusedVariables false
set_option linter.unusedSimpArgs false
open Go.RowKit Go.Sort

def devsTo (L : List Col) (k : Nat) : List Int := (L.take k).map (·.1)
theorem devsTo_step {L : List Col} {k : Nat} {x : Col} (h : L[k]? = some x) : devsTo L (k + 1) = devsTo L k ++ [x.1] := by
  unfold devsTo; rw [List.take_add_one, h]; simp
theorem devsTo_len {L : List Col} {k : Nat} (h : k ≤ L.length) : (devsTo L k).length = k := by
  unfold devsTo; rw [List.length_map, List.length_take]; omega

theorem own_prefix {w : World} {base g cap n m : Nat} {e : TypeId} {xs ys : List Value} (h : w.ownsRow base e 1 (.slice (some ⟨g, 0, none⟩) n cap) n (xs ++ ys)) (hm : xs.length = m) :
    w.ownsRow base e 1 (.slice (some ⟨g, 0, none⟩) m cap) m xs := by
  have hl : (xs ++ ys).length = n * 1 := h.1
  have h1 : m ≤ n := by rw [List.length_append] at hl; omega
  have := own_take h1 h
  rw [Nat.mul_one, List.take_left' hm] at this
  exact this

set_option maxHeartbeats 1600000 in
theorem devsC_any (A : Option Addr) (n c : Nat) (L : List Col) (w : World) (hL : SlC w A n L) (hn0 : 0 < n) (hn1 : n ≤ 1000) :
    Calls Tryz.prog 120 #[.slice A n c] w fun e w' => ∃ v, e = .returned v ∧
      w'.ownsRow w.heap.size 3 1 v (devsL L).length (intCells (devsL L)) ∧ Below w.heap.size w w' := by
  obtain ⟨hl1, hl2, hL⟩ := hL
  obtain ⟨b1, o1, rfl, h1⟩ := hL hn0
  obtain ⟨i0, hi, hz0, hz1, hz2⟩ := info_parts Tryz.infoInt
  have Hl := Lib.hid hl1
  clear hL hl1
  go_enter Tryz.func120, Tryz.ntmps120
  go_wp2
  go_loopw [3, 8] (fun v t wr => ∃ k : Nat, k ≤ n ∧ t = .int .i64 k ∧ wr.ownsRow w.heap.size 3 1 v k (intCells (devsTo L k)) ∧ Below w.heap.size w wr) (fun _ t _ => n - (RowKit.intOf t).toNat)
  case atStart => exact ⟨0, Nat.zero_le _, rfl, World.ownsRow_nil _ _ _ _, Below.refl _ _⟩
  case round =>
    obtain ⟨k, hk, rfl, hown, hb⟩ := hrel
    by_cases hlt : k < n
    · obtain ⟨x, hx⟩ : ∃ x, L[k]? = some x := ⟨_, List.getElem?_eq_getElem (by have := Hl.out; omega)⟩
      obtain ⟨p1, p2, p3, p4⟩ := (h1.below hb (Nat.le_refl _)).2 k x hx
      have hs := Lib.hid (devsTo_step hx)
      clear hx
      go_wp2_with (at_builtin; refine wpList_append_own _ rfl _ _ 74 rfl w.heap.size 3 i0 _ 1 8 Tryz.underlying74 hi hz0 hz1 hz2 rfl (by decide) _ _ _ rfl ((hown.alloc _).alloc _) ⟨wr.heap.size + 1, 0, none⟩ 1 1 [.int .i64 x.1] rfl rfl ?c1 ?c2 (by unfold maxLen; omega) (by omega) ?c5 ?_)
      case c1 => exact new1' (by simp)
      case c2 => intro u hu; simp at hu; subst hu; rfl
      case c5 => have := hb.size; simp; omega
      intro v' w1 hown' hgrow _
      have hb2 : Below w.heap.size w w1 := ((hb.alloc hb.size _).alloc (by have := hb.size; simp; omega) _).grown hgrow (by have := hb.size; simp; omega) (fun k hk => (hown.lt k hk).1)
      have hown2 : w1.ownsRow w.heap.size 3 1 v' (k + 1) (intCells (devsTo L (k + 1))) := by
        rw [hs.out, intCells_snoc]; exact hown'
      clear hown hown' hgrow
      go_wp2_with fail
      go_roundw
      case rel => exact ⟨k + 1, by omega, by go_num, hown2, hb2⟩
      case measure => simp [RowKit.intOf]; omega
    · obtain rfl : k = n := by omega
      have hlen : (devsTo L k).length = k := devsTo_len (by have := Hl.out; omega)
      have hD : Hid (devsTo L k = L.map (·.1)) := by unfold Hid devsTo; rw [List.take_of_length_le (by have := Hl.out; omega)]
      rcases hown.2 with ⟨_, h0⟩ | ⟨g, cap, cur, rfl, hbg, hblk, hn, hcap, hcur, htake⟩
      · omega
      rw [Nat.mul_one] at htake
      have hgl : g < wr.heap.size := (Array.getElem?_eq_some_iff.1 hblk).1
      have hH : Holds (Value.int .i64) wr g 0 (devsTo L k).toArray := holds_of_blockI hblk (by rw [hlen]; exact htake)
      have HS := Lib.hid (Tryz.slices_Sort_int g 0 cap (devsTo L k) wr hH hgl (by omega))
      rw [hlen] at HS
      have HG := Lib.hid (fun (n : Nat) (os : Array Obj) (ts : List Int) (hl : ts.length = (devsTo L k).length) => ownsRow_sortedI (n := n) (os := os) hl hbg hblk (by omega) hcap hcur)
      have HB := Lib.hid hb
      have HK := Lib.hid hlen
      clear hown hblk hcur htake hb hlen hH
      go_wp2_with fail
      refine HS.out.mono ?_
      rintro e w2 ⟨rfl, nn, os, hw2⟩
      have hb3 : Below w.heap.size w w2 := by
        rw [hw2]; exact HB.out.grown (grownBy_sortedI _) HB.out.size (fun j hj => by cases hj; exact hbg)
      have hown2 := HG.out nn os ((devsTo L k).mergeSort fun x y => decide (x ≤ y)) (by simp)
      rw [← hw2, HK.out, hD.out] at hown2
      clear hw2 HG HS
      have hml : ((L.map (·.1)).mergeSort fun x y => decide (x ≤ y)).length = k := by rw [List.length_mergeSort, ← hD.out, HK.out]
      have HV : Hid (devsL L = Lib.compact ((L.map (·.1)).mergeSort fun x y => decide (x ≤ y))) := Lib.hid rfl
      generalize ((L.map (·.1)).mergeSort fun x y => decide (x ≤ y)) = zs at *
      rcases hown2.2 with ⟨h0, _⟩ | ⟨g', cap', cur, h0, hbg', hblk, hn', hcap', hcur, htake⟩
      · cases h0
      injection h0 with h5 h6 h7
      injection h5 with h5
      injection h5 with h5
      subst h5 h7
      rw [Nat.mul_one] at htake
      have hH2 : Holds (Value.int .i64) w2 g 0 zs.toArray := holds_of_blockI hblk (by rw [hml]; exact htake)
      have HC := Lib.hid (Tryz.slices_Compact_int g 0 cap zs w2 hH2 (by omega) (by omega))
      rw [hml] at HC
      have HG2 := Lib.hid (fun (n : Nat) (os : Array Obj) (ts : List Int) (hl : ts.length = zs.length) => ownsRow_sortedI (n := n) (os := os) hl hbg hblk (by omega) hcap hcur)
      have HM := Lib.hid hml
      clear hown2 hblk hcur htake hml hH2
      go_wp2_with fail
      refine HC.out.mono ?_
      rintro e w3 ⟨rfl, q, hw3⟩
      have hlc := Lib.compact_length_le zs
      have hb4 : Below w.heap.size w w3 := by
        rw [hw3, ← grow_empty (putRow _ _ _ _ _)]; exact hb3.grown (grownBy_sortedI _) hb3.size (fun j hj => by cases hj; exact hbg)
      have hown3 := HG2.out q #[] (Lib.compact zs ++ List.replicate (zs.length - (Lib.compact zs).length) 0) (by simp; omega)
      rw [grow_empty] at hown3
      rw [HM.out] at hown3
      rw [← hw3] at hown3
      clear hw3 HG2 HC
      go_wp2_with fail
      go_ret
      refine ⟨_, rfl, ?_, hb4⟩
      rw [HV.out]
      rw [List.map_append] at hown3
      exact own_prefix hown3 (by simp [intCells])
end Go.Proofs.YtbhkbcpljakmjaaGreat

namespace Go.Proofs.YtbhkbcpljakmjaaGreat
set_option linter.unusedVariables false
set_option linter.unusedSimpArgs false
open Go.RowKit

theorem colsCells_one (L : List Col) : ∀ u ∈ colsCells L, u.oneCell' = true := by
  intro u hu
  obtain ⟨c, _, hc⟩ := List.mem_flatMap.1 hu
  exact col_one c u hc
set_option maxRecDepth 20000 in
theorem cloneC_any {w : World} {b off m c : Nat} {L : List Col} (hl : SlAt w (.slice (some ⟨b, off, none⟩) m c) m (colsCells L)) (hm : L.length = m) (h0 : 0 < m) (f1 : L.length ≤ 1000) :
    Calls Tryz.prog 118 #[.slice (some ⟨b, off, none⟩) m c] w fun e w' => ∃ g cap, e = .returned (.slice (some ⟨g, 0, none⟩) m cap) ∧ w'.ownsRow w.heap.size 71 4 (.slice (some ⟨g, 0, none⟩) m cap) m (colsCells L) ∧ Below w.heap.size w w' := by
  obtain ⟨i0, hi, hz0, hz1, hz2⟩ := info_parts Tryz.infoCol
  obtain ⟨A, c', e, hc', hg⟩ := hl
  cases e
  obtain ⟨b', off', e, hbl, hcs⟩ := hg h0
  cases e
  subst hm
  have H := Lib.hid hcs
  have hq : ∀ W, (binOp .eql 66 (.slice (some ⟨b, off, none⟩) L.length c) (.slice none 0 0)).run Tryz.prog W = .ok (.bool false) W := fun W => Lib.run_eql_slice_nil W _ _ (some ⟨b, off, none⟩) _ _ _ _ Tryz.underlying66
  clear hcs hg
  go_enter Tryz.func118, Tryz.ntmps118
  have hown : (w.alloc (.cells #[] 71)).ownsRow w.heap.size 71 4 (.slice (some ⟨w.heap.size, 0, none⟩) 0 0) 0 [] :=
    ⟨rfl, .inr ⟨w.heap.size, 0, #[], rfl, Nat.le_refl _, heap_alloc_new w _, Nat.le_refl _, by unfold maxLen; omega, rfl, rfl⟩⟩
  have hnews : ∀ j u, (colsCells L)[j]? = some u → (w.alloc (.cells #[] 71)).cell? ((⟨b, off, none⟩ : Addr).add j) = some u := fun j u hu => by
    rw [Addr.add_mid]
    exact cell_alloc (H.out j u hu) _
  go_wp2_with (at_builtin; refine wpList_append_own_at _ rfl _ _ 66 rfl w.heap.size 71 i0 _ 4 32 Tryz.underlying66 hi hz0 hz1 hz2 rfl (by decide) _ _ _ rfl hown ⟨b, off, none⟩ L.length c (colsCells L) rfl (colsCells_len L) hnews (colsCells_one L) (by unfold maxLen; omega) (by omega) (by simp) ?_)
  intro v' w8 hown' hgrow _ _
  have hown' : w8.ownsRow w.heap.size 71 4 v' L.length (colsCells L) := by simpa using hown'
  obtain ⟨g, cap, rfl, _, _⟩ := hown'.form (by omega)
  have HO := Lib.hid hown'
  have HB : Hid (Below w.heap.size w w8) := Lib.hid ((keep_alloc (Below.refl _ w) _).grown hgrow (by simp) (fun y e => by simp [Value.ownBlock] at e; omega))
  clear hown' hgrow hown hnews
  go_wp2_with fail
  go_ret
  exact ⟨g, cap, rfl, HO.out, HB.out⟩
theorem goesPar1 : Goes 119 := enters_of Tryz.func119 (by kernel_rfl) (by kernel_rfl)
theorem par1_any (B : Nat) (w0 : World) : ColPred 119 #[] (fun x => x.2.2.1) B w0 := by
  intro x w _
  go_enter Tryz.func119, Tryz.ntmps119
  go_wp2
  go_ret
  exact ⟨rfl, by repeat (first | exact Below.refl _ _ | (with_reducible refine keep_alloc ?_ _))⟩
end Go.Proofs.YtbhkbcpljakmjaaGreat
