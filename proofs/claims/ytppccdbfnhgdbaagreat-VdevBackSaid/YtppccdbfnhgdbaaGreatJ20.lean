/-
  Contracts of package code: again.
  DERIVED: THE SHELF's CONTRACTS AT THIS DUMP, IN PLAIN WORDS (tools/lay-plain.mjs out of 'TryShelf.lean', which tools/lay-shelf.mjs wrote): THE SAME DECLARATIONS UNDER THE SAME NAMES: 'import', 'namespace', 'open', 'def', 'theorem' AND NOTHING ELSE: no command of the shelf's: FOR A HAND-IN. Each laying: the table of numbers ('.._ren') and one theorem, a field a fact of the dump's own or the kernel's comparison; each contract: ONE APPLICATION.
  Contracts of package code: without; strings.Join of texts, a builder's texts.
-/
import Derived.Test.YtppccdbfnhgdbaaGreatJ17
import Derived.Shelf.Strings.Builder1
import Derived.Shelf.Strings.Builder2
import Derived.Shelf.Strings.OnBuilder
import Derived.Shelf.Strings.BuilderF
import Derived.Test.YtppccdbfnhgdbaaGreatProg
namespace Go.Proofs.YtppccdbfnhgdbaaGreat
set_option linter.unusedVariables false
set_option linter.unusedSimpArgs false
open Go.RowKit

theorem getD_at {L : List Col} {k : Nat} {x : Col} (h : L[k]? = some x) : L.getD k (0, 0, false, 0) = x := by rw [List.getD_eq_getElem?_getD, h]; rfl
theorem gotD_at {L : List (List UInt8)} {k : Nat} {x : List UInt8} (h : L[k]? = some x) : L.getD k [] = x := by rw [List.getD_eq_getElem?_getD, h]; rfl
set_option maxRecDepth 20000 in
set_option maxHeartbeats 1000000 in
theorem again_any {w : World} {L : List Col} {got : List (List UInt8)} {lv gv : Value} (hl : SlAt w lv L.length (colsCells L)) (hg : SlAt w gv got.length (strC got)) (hgl : got.length = L.length) (hL64 : L.length ≤ 64) (h64 : ∀ s ∈ got, s.length ≤ 64) {at_ : Nat} (hat : at_ < L.length) :
    Calls Tryz.prog 72 #[lv, gv, .int .i64 at_] w fun e w' => e = .returned (str (againS L got at_)) ∧ Below w.heap.size w w' := by
  obtain ⟨Al, cl, rfl⟩ := hl.form
  obtain ⟨Ag, cg, rfl⟩ := hg.form
  rw [hgl] at hg ⊢
  have H := Lib.hid hl
  have HG := Lib.hid hg
  have HGL := Lib.hid hgl
  have H64 := Lib.hid h64
  obtain ⟨ya, hya⟩ : ∃ y, L[at_]? = some y := ⟨_, List.getElem?_eq_getElem hat⟩
  have HYA := Lib.hid hya
  clear hl hg hgl h64 hya
  obtain ⟨i0, hi, hz0, hz1, hz2⟩ := info_parts Tryz.infoStr
  go_enter Tryz.func72, Tryz.ntmps72
  go_wp2_with fail
  go_loopw [7, 8, 9, 14] (fun v _ _ t wr => ∃ k : Nat, k ≤ L.length ∧ t = .int .i64 k ∧ wr.ownsRow w.heap.size 9 1 v (againIx L at_ k).length (strC ((againIx L at_ k).map fun i => got.getD i [])) ∧ Below w.heap.size w wr) (fun _ _ _ t _ => L.length - (RowKit.intOf t).toNat)
  case atStart => exact ⟨0, Nat.zero_le _, rfl, World.ownsRow_nil _ _ _ _, Below.refl _ _⟩
  case round =>
    obtain ⟨k, hk, rfl, hown, hb⟩ := hrel
    have HB := Lib.hid hb
    have HOWN := Lib.hid hown
    clear hb hown
    by_cases hlt : k < L.length
    · obtain ⟨b, o, rfl, hbl, hcell⟩ := H.out.cells (by omega)
      obtain ⟨x, hx⟩ : ∃ x, L[k]? = some x := ⟨_, List.getElem?_eq_getElem hlt⟩
      obtain ⟨q0, q1, q2, q3⟩ := colsCells_at hx
      have hcl : ∀ j u, (colsCells L)[j]? = some u → wr.cell? ⟨b, o + j, none⟩ = some u := fun j u hu => (World.cell?_of_block (HB.out.block b hbl)).trans (hcell j u hu)
      have f0 : wr.cell? ⟨b, o + k * 4, none⟩ = some (.int .i64 x.1) := hcl _ _ q0
      have f1 : wr.cell? ⟨b, o + k * 4 + 1, none⟩ = some (.int .i64 x.2.1) := hcl _ _ q1
      have f2 : wr.cell? ⟨b, o + k * 4 + 2, none⟩ = some (.bool x.2.2.1) := hcl _ _ q2
      have f3 : wr.cell? ⟨b, o + k * 4 + 3, none⟩ = some (.int .i64 x.2.2.2) := hcl _ _ q3
      have hdc : decide (k < L.length) = true := decide_eq_true hlt
      have HLT := Lib.hid hlt
      have HX := Lib.hid hx
      have hi44 : (Tryz.prog.info? 44).map (·.size) = some (#[.int .i64 x.1, .int .i64 x.2.1, .bool x.2.2.1, .int .i64 x.2.2.2] : Array Value).size := by kernel_rfl
      have h1c : (#[.int .i64 x.1, .int .i64 x.2.1, .bool x.2.2.1, .int .i64 x.2.2.2] : Array Value).all (·.oneCell') = true := by kernel_rfl
      have Z2 : Blk (wr.alloc (.cells colZ 44)) wr.heap.size 44 colZ := Blk.new _ _ _
      have hth : (wr.alloc (.cells colZ 44)).there wr.heap.size 0 (#[.int .i64 x.1, .int .i64 x.2.1, .bool x.2.2.1, .int .i64 x.2.2.2] : Array Value).size := Z2.there (Nat.le_refl _)
      obtain ⟨w2, hw2⟩ : ∃ y, (wr.alloc (.cells colZ 44)).setCells wr.heap.size 0 (#[.int .i64 x.1, .int .i64 x.2.1, .bool x.2.2.1, .int .i64 x.2.2.2] : Array Value).toList = y := ⟨_, rfl⟩
      have X2 : Blk w2 wr.heap.size 44 #[.int .i64 x.1, .int .i64 x.2.1, .bool x.2.2.1, .int .i64 x.2.2.2] := by rw [← hw2]; exact Z2.putAll _ rfl
      have hb2 : Below wr.heap.size wr w2 := by rw [← hw2]; exact below_sets _ _ (keep_alloc (Below.refl _ _) _) (Nat.le_refl _)
      have hs2 : w2.heap.size = wr.heap.size + 1 := by rw [← hw2, sets_size', World.size_alloc]
      have HW2 := Lib.hid hw2
      have HX2 := Lib.hid X2
      have HK2 := Lib.hid hb2
      have HS2 := Lib.hid hs2
      have e2 : w2.cell? ⟨wr.heap.size, 2, none⟩ = some (.bool x.2.2.1) := X2.at_ rfl
      have e3 : w2.cell? ⟨wr.heap.size, 3, none⟩ = some (.int .i64 x.2.2.2) := X2.at_ rfl
      clear q0 q1 q2 q3 hcl hcell hx hbl hw2 X2 hb2 hs2 Z2
      have HD2B := Lib.hid (HB.out.trans (HK2.out.mono HB.out.size))
      have HOW2 := Lib.hid (ownsRow_same HOWN.out (fun b hb => HK2.out.block b (HOWN.out.lt b hb).2))
      obtain ⟨q0, q1, q2, q3⟩ := colsCells_at HYA.out
      obtain ⟨b1, o1, e1, hl1, hc1⟩ := H.out.cells (by omega)
      cases e1
      have fy : w2.cell? ⟨b, o + at_ * 4 + 3, none⟩ = some (.int .i64 ya.2.2.2) := keep_cell HD2B.out (hc1 _ _ q3) hl1
      have e3 : w2.cell? ⟨wr.heap.size, 3, none⟩ = some (.int .i64 x.2.2.2) := HX2.out.at_ rfl
      have hla : at_ < L.length := hat
      have hstep := againIx_step L at_ k
      rw [getD_at HX.out, getD_at HYA.out] at hstep
      have HST := Lib.hid hstep
      clear q0 q1 q2 hc1 hstep
      repeat' (first
        | (((with_reducible refine wpList_store_mid ?a1 44 (.tmp 9) (.tmp 18) ?a2 wr.heap.size 0 #[.int .i64 x.1, .int .i64 x.2.1, .bool x.2.2.1, .int .i64 x.2.2.2] ?a3 ?a4 hth hi44 h1c ?_); (case a1 => rfl); (case a2 => rfl); (case a3 => rfl); (case a4 => rfl); simp only [Act.put, List.setIfInBounds_toArray, List.set_cons_zero, List.set_cons_succ]; rw [HW2.out]))
        | go_values
        | go_skip
        | go_guarded
        | ((fail_if_success (with_reducible refine drawn_mark ?_))
           first
             | go_step
             | go_upon
             | go_back
             | (simp only [Int.not_lt, Int.not_le] at *; go_simp)
             | (go_values <;> (try go_simp))
             | (go_ite <;> go_prune <;> (try go_simp))
             | (split <;> (first | (rename_i hx; exact (hx _ rfl).elim) | go_prune))))
      obtain ⟨C, hCd, hCw, hCB, hCK, hCD⟩ := cls_below w2
      have g3 : ∀ W, C W → W.cell? ⟨wr.heap.size, 3, none⟩ = some (.int .i64 x.2.2.2) := fun W h => keep_cell (hCB W h) e3 HX2.out.lt
      have gy : ∀ W, C W → W.cell? ⟨b, o + at_ * 4 + 3, none⟩ = some (.int .i64 ya.2.2.2) := fun W h => keep_cell (hCB W h) fy (Nat.lt_of_lt_of_le hl1 HD2B.out.size)
      cases hrow : (x.2.2.2 == ya.2.2.2) with
      | false =>
        have HT : Hid (againIx L at_ (k + 1) = againIx L at_ k) := Lib.hid (by rw [HST.out, hrow]; simp)
        go_wp2_with fail
        refine wp_region_cls C (by kernel_rfl) (by kernel_rfl) hCd ?_
        repeat (first
          | go_big_quiet_skip
          | (go_big_quiet_want
             go_big_quiet_op
             first
               | go_big_quiet_on
               | (apply Exists.intro
                  refine ⟨fun W hW => ?_, ?_⟩
                  · first
                      | exact rfl
                      | exact ⟨rfl, rfl⟩
                      | (have e0 := g3 W hW; have e1 := gy W hW; simp only [e0, e1, Result.andThen_ok]; done)
                      | (have e0 := g3 W hW; have e1 := gy W hW; simp only [e0, e1, Result.andThen_ok]; first | exact ⟨trivial, rfl⟩ | exact rfl | exact ⟨rfl, rfl⟩)
                      | (skip)
                  go_big_quiet_on)))
        refine wpQuiet_nil ?_
        intro wz hwz
        have HBZ := Lib.hid (hCB wz hwz)
        clear g3 gy hCd hCB hwz hCw hCK hCD e2 e3 fy hi44 h1c hth f0 f1 f2 f3 hrow
        go_wp2_with fail
        go_roundw
        case rel => exact ⟨k + 1, HLT.out, by go_num, by rw [HT.out]; exact ownsRow_same HOW2.out (fun b hb => HBZ.out.block b (HOW2.out.lt b hb).2), HD2B.out.trans (HBZ.out.mono HD2B.out.size)⟩
        case measure => have := HLT.out; simp [RowKit.intOf]; omega
      | true =>
        by_cases hka : k = at_
        · have HT : Hid (againIx L at_ (k + 1) = againIx L at_ k) := Lib.hid (by rw [HST.out, hka]; simp)
          have hkb : ((k : Int) != at_) = false := by rw [bne_eq_false_iff_eq]; omega
          clear hka
          go_wp2_with fail
          refine wp_region_cls C (by kernel_rfl) (by kernel_rfl) hCd ?_
          repeat (first
            | go_big_quiet_skip
            | (go_big_quiet_want
               go_big_quiet_op
               first
                 | go_big_quiet_on
                 | (apply Exists.intro
                    refine ⟨fun W hW => ?_, ?_⟩
                    · first
                        | exact rfl
                        | exact ⟨rfl, rfl⟩
                        | (have e0 := g3 W hW; have e1 := gy W hW; simp only [e0, e1, Result.andThen_ok]; done)
                        | (have e0 := g3 W hW; have e1 := gy W hW; simp only [e0, e1, Result.andThen_ok]; first | exact ⟨trivial, rfl⟩ | exact rfl | exact ⟨rfl, rfl⟩)
                        | (skip)
                    go_big_quiet_on)))
          refine wpQuiet_nil ?_
          intro wz hwz
          have HBZ := Lib.hid (hCB wz hwz)
          clear g3 gy hCd hCB hwz hCw hCK hCD e2 e3 fy hi44 h1c hth f0 f1 f2 f3 hrow
          go_wp2_with fail
          go_roundw
          case rel => exact ⟨k + 1, HLT.out, by go_num, by rw [HT.out]; exact ownsRow_same HOW2.out (fun b hb => HBZ.out.block b (HOW2.out.lt b hb).2), HD2B.out.trans (HBZ.out.mono HD2B.out.size)⟩
          case measure => have := HLT.out; simp [RowKit.intOf]; omega
        · have HT : Hid (againIx L at_ (k + 1) = againIx L at_ k ++ [k]) := Lib.hid (by rw [HST.out, hrow]; simp [hka])
          have hkb : ((k : Int) != at_) = true := by rw [bne_iff_ne]; omega
          obtain ⟨s, hs⟩ : ∃ s, got[k]? = some s := ⟨_, List.getElem?_eq_getElem (by rw [HGL.out]; exact hlt)⟩
          obtain ⟨b2, o2, rfl, hl2, hc2⟩ := HG.out.cells (by omega)
          have HGS := Lib.hid (hc2 k (str s) (strC_at hs))
          have HSS := Lib.hid (gotD_at hs)
          have HL2 := Lib.hid hl2
          have hal := againIx_len L at_ k
          have hkg := hlt
          clear hka hs hc2 hl2
          go_wp2_with fail
          refine wp_region_cls C (by kernel_rfl) (by kernel_rfl) hCd ?_
          repeat (first
            | go_big_quiet_skip
            | (go_big_quiet_want
               go_big_quiet_op
               first
                 | go_big_quiet_on
                 | (apply Exists.intro
                    refine ⟨fun W hW => ?_, ?_⟩
                    · first
                        | exact rfl
                        | exact ⟨rfl, rfl⟩
                        | (have e0 := g3 W hW; have e1 := gy W hW; simp only [e0, e1, Result.andThen_ok]; done)
                        | (have e0 := g3 W hW; have e1 := gy W hW; simp only [e0, e1, Result.andThen_ok]; first | exact ⟨trivial, rfl⟩ | exact rfl | exact ⟨rfl, rfl⟩)
                        | (skip)
                    go_big_quiet_on)))
          refine wpQuiet_nil ?_
          intro wz hwz
          have HBZ := Lib.hid (HD2B.out.trans ((hCB wz hwz).mono HD2B.out.size))
          have HOZ := Lib.hid (ownsRow_same HOW2.out (fun b hb => (hCB wz hwz).block b (HOW2.out.lt b hb).2))
          have gs := keep_cell HBZ.out HGS.out HL2.out
          obtain ⟨R, hR⟩ : ∃ R, againIx L at_ k = R := ⟨_, rfl⟩
          rw [hR] at HOZ HT hal
          clear g3 gy hCd hCB hwz hCw hCK hCD e2 e3 fy hi44 h1c hth f0 f1 f2 f3 hrow hR HOWN HOW2
          go_wp2_with (at_builtin; refine wpList_append_own _ rfl _ _ 37 rfl w.heap.size 9 i0 _ 1 16 Tryz.underlying37 hi hz0 hz1 hz2 rfl (by decide) _ _ _ rfl (HOZ.out.alloc _) ⟨wz.heap.size, 0, none⟩ 1 1 [str s] rfl rfl ?c1 ?c2 (by unfold maxLen; omega) (by omega) ?c5 ?_)
          try (case c1 => exact one_new' _ _ _)
          case c2 => first | rfl | (intro u hu; simp at hu; subst hu; rfl)
          case c5 => have := HBZ.out.size; simp; omega
          intro v' w5 hown' hgrow _
          have hown5 : w5.ownsRow w.heap.size 9 1 v' (againIx L at_ (k + 1)).length (strC ((againIx L at_ (k + 1)).map fun i => got.getD i [])) := by
            rw [HT.out, List.length_append, List.map_append, List.map_cons, List.map_nil, HSS.out, strC_snoc]
            exact hown'
          have hb5 : Below w.heap.size w w5 := (HBZ.out.alloc HBZ.out.size _).grown hgrow (by have := HBZ.out.size; simp; omega) (fun k hk => (HOZ.out.lt k hk).1)
          have HO5 := Lib.hid hown5
          have HB5 := Lib.hid hb5
          clear hown' hgrow hown5 hb5 gs
          go_wp2_with fail
          go_roundw
          case rel => exact ⟨k + 1, HLT.out, by go_num, HO5.out, HB5.out⟩
          case measure => have := HLT.out; simp [RowKit.intOf]; omega
    · obtain rfl : k = L.length := by omega
      have hdc : decide ((L.length : Int) < L.length) = false := decide_eq_false (by omega)
      obtain ⟨P, hP⟩ : ∃ P, P = (againIx L at_ L.length).map fun i => got.getD i [] := ⟨_, rfl⟩
      have hso := slAt_own HOWN.out
      have hPl : (againIx L at_ L.length).length = P.length := by rw [hP, List.length_map]
      rw [← hP, hPl] at hso
      have hPn : P.length ≤ 64 := by rw [← hPl]; exact Nat.le_trans (againIx_len _ _ _) hL64
      have hP64 : (P.headD []).length ≤ 64 := by
        cases hq : P with
        | nil => exact Nat.zero_le _
        | cons a r =>
          have hm : a ∈ (againIx L at_ L.length).map fun i => got.getD i [] := by rw [← hP, hq]; exact List.mem_cons_self
          obtain ⟨i, _, hi⟩ := List.mem_map.1 hm
          show a.length ≤ 64
          rw [← hi, List.getD_eq_getElem?_getD]
          cases hgi : got[i]? with
          | none => exact Nat.zero_le _
          | some u => exact H64.out u (List.mem_of_getElem? hgi)
      have HCE := Lib.hid (conE_any hso (by omega))
      have HRES : Hid (againS L got at_ = if hasE P then [] else makeS P) := Lib.hid (by unfold againS; rw [hP])
      have HSO := Lib.hid hso
      have HP64 := Lib.hid hP64
      obtain ⟨Ap, cp, rfl⟩ := hso.form
      clear hso hP hPl hP64 HOWN
      go_wp2_with fail
      refine HCE.out.mono ?_
      rintro e w3 ⟨rfl, hb3⟩
      have HB3 := Lib.hid (keep_below hb3 HB.out)
      have HM := Lib.hid (parMake_any (HSO.out.below hb3) (by have := HP64.out; omega) (by omega))
      clear hb3
      cases hE : hasE P with
      | true =>
        rw [hE] at HRES
        clear hE
        go_wp2_with fail
        go_ret
        rw [HRES.out]
        exact ⟨rfl, HB3.out⟩
      | false =>
        rw [hE] at HRES
        clear hE
        go_wp2_with fail
        refine HM.out.mono ?_
        rintro e w4 ⟨rfl, hb4⟩
        have HB4 := Lib.hid (keep_below hb4 HB3.out)
        clear hb4
        go_wp2_with fail
        go_ret
        rw [HRES.out]
        exact ⟨rfl, HB4.out⟩
end Go.Proofs.YtppccdbfnhgdbaaGreat

namespace Go.Proofs
open Go.Shelf
def Tryz.lays156_ren : Go.Shelf.Ren := ⟨fun | 156 => 47 | 165 => 66 | 166 => 67 | 169 => 68 | 240 => 75 | 241 => 76 | 276 => 82 | 277 => 83 | n => n, fun | 31 => 37 | 9 => 9 | 3 => 3 | 4 => 4 | 0 => 0 | 20 => 20 | 72 => 112 | 76 => 116 | 70 => 110 | 37 => 53 | 75 => 115 | 127 => 124 | 164 => 131 | 5 => 5 | 80 => 118 | n => n, fun | n => n⟩
theorem Tryz.lays156 : Go.Proofs.Lays.n156 Tryz.prog Tryz.lays156_ren := {
  mixed := by kernel_rfl
  f156 := Tryz.func47.trans (congrArg some (by kernel_rfl))
  f165 := Tryz.func66.trans (congrArg some (by kernel_rfl))
  f166 := Tryz.func67.trans (congrArg some (by kernel_rfl))
  f169 := Tryz.func68.trans (congrArg some (by kernel_rfl))
  f240 := Tryz.func75.trans (congrArg some (by kernel_rfl))
  f241 := Tryz.func76.trans (congrArg some (by kernel_rfl))
  f276 := Tryz.func82.trans (congrArg some (by kernel_rfl))
  f277 := Tryz.func83.trans (congrArg some (by kernel_rfl))
  t0 := Tryz.underlying0
  a0 := Tryz.isAgg0
  z0 := Tryz.sizeOf0
  v0 := Tryz.zeroValue0
  t3 := Tryz.underlying3
  a3 := Tryz.isAgg3
  z3 := Tryz.sizeOf3
  v3 := Tryz.zeroValue3
  t4 := Tryz.underlying4
  a4 := Tryz.isAgg4
  z4 := Tryz.sizeOf4
  v4 := Tryz.zeroValue4
  t9 := Tryz.underlying9
  a9 := Tryz.isAgg9
  z9 := Tryz.sizeOf9
  v9 := Tryz.zeroValue9
  t20 := Tryz.underlying20
  a20 := Tryz.isAgg20
  z20 := Tryz.sizeOf20
  v20 := Tryz.zeroValue20
  t31 := Tryz.underlying37
  a31 := Tryz.isAgg37
  z31 := Tryz.sizeOf37
  v31 := Tryz.zeroValue37
  t37 := Tryz.underlying53
  a37 := Tryz.isAgg53
  z37 := Tryz.sizeOf53
  v37 := Tryz.zeroValue53
  t70 := Tryz.underlying110
  a70 := Tryz.isAgg110
  z70 := Tryz.sizeOf110
  v70 := Tryz.zeroValue110
  t72 := Tryz.underlying112
  a72 := Tryz.isAgg112
  z72 := Tryz.sizeOf112
  v72 := Tryz.zeroValue112
  t75 := Tryz.underlying115
  a75 := Tryz.isAgg115
  z75 := Tryz.sizeOf115
  v75 := Tryz.zeroValue115
  t76 := Tryz.underlying116
  a76 := Tryz.isAgg116
  z76 := Tryz.sizeOf116
  v76 := Tryz.zeroValue116
  t127 := Tryz.underlying124
  a127 := Tryz.isAgg124
  z127 := Tryz.sizeOf124
  v127 := Tryz.zeroValue124
  t164 := Tryz.underlying131
  a164 := Tryz.isAgg131
  z164 := Tryz.sizeOf131
  v164 := Tryz.zeroValue131 }
theorem Tryz.Builder_Extra_156 : Builder.Extra Tryz.prog Tryz.lays156_ren := {
  sizeBuilder := by kernel_rfl
  liesBuilder := by kernel_rfl
  t5 := Tryz.underlying5
  a5 := Tryz.isAgg5
  z5 := Tryz.sizeOf5
  v5 := Tryz.zeroValue5
  infoByte := by kernel_rfl
  cellsByte := by kernel_rfl
  sizeByte := by kernel_rfl
  neB5 := by decide }
open Go.RowKit in
/-- No element: the empty string; the world is as it was. (Whatever the slice's address and capacity: a nil slice too.) (LAID: no walk: one application.) -/
theorem Tryz.strings_Join_none (a : Option Addr) (c : Nat) (sep : ByteArray) (w : World) :
    Calls Tryz.prog 47 #[.slice a 0 c, .string sep] w fun e w' => e = .returned (.string ⟨#[]⟩) ∧ w' = w := Any.strings_Join_none Tryz.lays156 Tryz.Builder_Extra_156 a c sep w
open Go.RowKit in
/-- strings.Join: "Join concatenates the elements of its first argument to create a single string. The separator string sep is placed between elements in the resulting string.": HOWEVER MANY ELEMENTS. Below the heap's end the world is as it was. (LAID: no walk: one application.) -/
theorem Tryz.strings_Join (bk o c : Nat) (xs : List ByteArray) (sep : ByteArray) (w : World) (hcells : ∀ (j : Nat) x, xs[j]? = some x → w.cell? ⟨bk, o + j, none⟩ = some (.string x)) (hbk : bk < w.heap.size) (hN : xs.length ≤ 140737488355328) (hcap : xs.length ≤ c) (hlen : (Lib.join (xs.map (·.data.toList)) sep.data.toList).length ≤ 140737488355328) :
    Calls Tryz.prog 47 #[.slice (some ⟨bk, o, none⟩) xs.length c, .string sep] w fun e w' => e = .returned (.string ⟨(Lib.join (xs.map (·.data.toList)) sep.data.toList).toArray⟩) ∧ Below w.heap.size w w' := Any.strings_Join Tryz.lays156 Tryz.Builder_Extra_156 bk o c xs sep w hcells hbk hN hcap hlen
end Go.Proofs

namespace Go.Proofs.YtppccdbfnhgdbaaGreat
set_option linter.unusedVariables false
set_option linter.unusedSimpArgs false
open Go.RowKit

theorem isB_keep {T e : TypeId} {B b : Nat} {bs : List Value} {W W' : World} (h : Lib.IsBuilder T e B b bs W) (hb : Below W.heap.size W W') : Lib.IsBuilder T e B b bs W' := by
  have key : ∀ p, Lib.BuilderAt T e B b p bs W → Lib.BuilderAt T e B b p bs W' := by
    rintro p h'
    obtain ⟨hB, v, h1, h2, h3⟩ := h'
    exact ⟨hB, v, (hb.block b (lt_of_block h1)).trans h1, h2.kept (row := none) ⟨hb.os, hb.tape, hb.output, hb.size, fun i hi _ => hb.block i hi⟩ (by cases hv : v.ownBlock with | none => exact .inl rfl | some _ => exact .inr (by simp)), h3⟩
  exact h.elim (fun x => .inl (key _ x)) (fun x => .inr (key _ x))
theorem wrS_any (B b : Nat) (bs : List Value) (s : List UInt8) (w : World) (h : Lib.IsBuilder 112 5 B b bs w) (hlen : bs.length + (ByteArray.mk s.toArray).size ≤ 140737488355328) (hBw : B ≤ w.heap.size) :
    Calls Tryz.prog 67 #[.pointer (some ⟨b, 0, none⟩), str s] w fun e w' => e = .returned (.tuple #[.int .i64 (ByteArray.mk s.toArray).size, .nilIface]) ∧ (Lib.BuilderAt 112 5 B b (.pointer (some ⟨b, 0, none⟩)) (bs ++ Lib.strCells ⟨s.toArray⟩) w' ∧ Below B w w') :=
  Any.Builder_WriteString ({ Tryz.lays156 with } : Go.Proofs.Lays.n166 Tryz.prog Tryz.lays156_ren) Tryz.Builder_Extra_156 B b bs ⟨s.toArray⟩ w h hlen hBw
theorem stS_any (B b : Nat) (l : List UInt8) (w : World) (h : Lib.IsBuilder 112 5 B b (Lib.byteCells l) w) (hBw : B ≤ w.heap.size) :
    Calls Tryz.prog 68 #[.pointer (some ⟨b, 0, none⟩)] w fun e w' => e = .returned (str l) ∧ Below B w w' :=
  (Any.Builder_String_any ({ Tryz.lays156 with } : Go.Proofs.Lays.n169 Tryz.prog Tryz.lays156_ren) Tryz.Builder_Extra_156 B b l w h hBw).mono fun e w' h => by
    first
      | exact h
      | exact ⟨h.1, h.2.1⟩
      | exact ⟨h.1, h.2.2⟩
theorem join_flat : ∀ l : List (List UInt8), Lib.join l [] = l.flatten
  | [] => rfl
  | [x] => by simp [Lib.join]
  | x :: y :: r => by
    have := join_flat (y :: r)
    simp only [Lib.join, List.append_nil, List.flatten_cons] at *
    simp [this]
/-- strings.Join without a text between. -/
theorem join_any {w : World} {ss : List (List UInt8)} {sv : Value} (h : SlAt w sv ss.length (strC ss)) (f1 : ss.length ≤ 1000) (f2 : ss.flatten.length ≤ 1000000) :
    Calls Tryz.prog 47 #[sv, str []] w fun e w' => e = .returned (str ss.flatten) ∧ Below w.heap.size w w' := by
  obtain ⟨A, c, rfl⟩ := h.form
  cases ss with
  | nil =>
    refine (Tryz.strings_Join_none A c ⟨#[]⟩ w).mono ?_
    rintro e w' ⟨rfl, rfl⟩
    exact ⟨rfl, Below.refl _ _⟩
  | cons s r =>
    obtain ⟨_, c', e1, hc, hcl⟩ := h
    cases e1
    obtain ⟨b, o, rfl, hb, hcell⟩ := hcl (by simp)
    obtain ⟨xs, hxs⟩ : ∃ xs : List ByteArray, xs = (s :: r).map fun l => ⟨l.toArray⟩ := ⟨_, rfl⟩
    have hxl : xs.length = (s :: r).length := by rw [hxs, List.length_map]
    have hxd : Lib.join (xs.map (·.data.toList)) ([] : List UInt8) = (s :: r).flatten := by
      rw [join_flat, hxs, List.map_map]
      congr 1
      exact (List.map_congr_left (fun l _ => by simp)).trans (List.map_id _)
    have := Tryz.strings_Join b o c xs ⟨#[]⟩ w (fun j x hx => by
      refine hcell j (.string x) ?_
      rw [hxs, List.getElem?_map] at hx
      cases hq : (s :: r)[j]? with
      | none => rw [hq] at hx; cases hx
      | some u =>
        rw [hq] at hx
        simp only [Option.map_some, Option.some.injEq] at hx
        rw [← hx]
        exact strC_at hq) hb (by rw [hxl]; omega) (by rw [hxl]; exact hc) (by
        show (Lib.join (xs.map (·.data.toList)) ([] : List UInt8)).length ≤ _
        rw [hxd]; omega)
    rw [hxl] at this
    refine this.mono ?_
    rintro e w' ⟨rfl, hb'⟩
    refine ⟨?_, hb'⟩
    show Ending.returned (.string ⟨(Lib.join (xs.map (·.data.toList)) ([] : List UInt8)).toArray⟩) = _
    rw [hxd]
theorem makeS_le (l : List (List UInt8)) : (makeS l).length ≤ (l.headD []).length := by
  unfold makeS
  split
  · rename_i h
    have he := h.2
    unfold evenB at he
    rw [List.all_eq_true] at he
    rw [parN_len (fun x hx => by simpa using he x hx)]
    exact Nat.le_refl _
  · exact Nat.zero_le _
theorem againS_le {L : List Col} {got : List (List UInt8)} (h64 : ∀ s ∈ got, s.length ≤ 64) (at_ : Nat) : (againS L got at_).length ≤ 64 := by
  have hg : ∀ i, (got.getD i []).length ≤ 64 := fun i => by
    rw [List.getD_eq_getElem?_getD]
    cases h : got[i]? with
    | none => exact Nat.zero_le _
    | some u => exact h64 u (List.mem_of_getElem? h)
  have key : ∀ R : List Nat, (makeS (R.map fun i => got.getD i [])).length ≤ 64 := fun R => by
    refine Nat.le_trans (makeS_le _) ?_
    cases R with
    | nil => exact Nat.zero_le _
    | cons a r => exact hg a
  unfold againS
  simp only
  split
  · exact Nat.zero_le _
  · exact key _
theorem colTxt_le {L : List Col} {got : List (List UInt8)} (h64 : ∀ s ∈ got, s.length ≤ 64) (dev : Int) (i : Nat) : (colTxt L got dev i).length ≤ 64 := by
  unfold colTxt
  split
  · exact againS_le h64 i
  · rw [List.getD_eq_getElem?_getD]
    cases h : got[i]? with
    | none => exact Nat.zero_le _
    | some u => exact h64 u (List.mem_of_getElem? h)
theorem flat_le : ∀ {l : List (List UInt8)}, (∀ s ∈ l, s.length ≤ 64) → l.flatten.length ≤ 64 * l.length
  | [], _ => by simp
  | s :: r, h => by
    have h1 := h s List.mem_cons_self
    have h2 := flat_le (l := r) (fun x hx => h x (List.mem_cons_of_mem _ hx))
    rw [List.flatten_cons, List.length_append, List.length_cons]
    omega
set_option maxRecDepth 20000 in
set_option maxHeartbeats 1000000 in
theorem without_any {w : World} {L : List Col} {got : List (List UInt8)} {lv gv : Value} (hl : SlAt w lv L.length (colsCells L)) (hg : SlAt w gv got.length (strC got)) (hgl : got.length = L.length) (hL64 : L.length ≤ 64) (h64 : ∀ s ∈ got, s.length ≤ 64) (dev : Int) :
    Calls Tryz.prog 52 #[lv, gv, .int .i64 dev] w fun e w' => e = .returned (str (withS L got dev)) ∧ Below w.heap.size w w' := by
  obtain ⟨Al, cl, rfl⟩ := hl.form
  obtain ⟨Ag, cg, rfl⟩ := hg.form
  rw [hgl] at hg ⊢
  have HGG : Hid (SlAt w (.slice Ag L.length cg) got.length (strC got)) := Lib.hid (by rw [hgl]; exact hg)
  obtain ⟨w1, hw1⟩ : ∃ z, w.alloc (.cells #[.pointer none, .slice none 0 0] 112) = z := ⟨_, rfl⟩
  have hd1 : Below w.heap.size w w1 := by rw [← hw1]; exact keep_alloc (Below.refl _ _) _
  have hs1 : w.heap.size + 1 ≤ w1.heap.size := by rw [← hw1]; simp
  have hI1 : Lib.IsBuilder 112 5 w.heap.size w.heap.size (Lib.byteCells []) w1 := .inl ⟨Nat.le_refl _, .slice none 0 0, by rw [← hw1]; exact Blk.new w _ _, World.ownsRow_nil _ _ _ _, by simp [Value.ownBlock]⟩
  have H := Lib.hid hl
  have HG := Lib.hid hg
  have HGL := Lib.hid hgl
  have H64 := Lib.hid h64
  have HLL := Lib.hid hl
  have HW1 := Lib.hid hw1
  have HI1 := Lib.hid (And.intro hI1 (And.intro hd1 hs1))
  have HRES : Hid (withS L got dev = if hasE ((dataIx L L.length).map (colTxt L got dev)) then [] else ((dataIx L L.length).map (colTxt L got dev)).flatten) := Lib.hid rfl
  clear hl hg hgl h64 hw1 hI1 hd1 hs1
  go_enter Tryz.func52, Tryz.ntmps52
  go_wp2_with fail
  rw [HW1.out]
  go_loopw [8, 9, 10, 13] (fun _ _ _ t wr => ∃ k : Nat, k ≤ L.length ∧ t = .int .i64 k ∧ Lib.IsBuilder 112 5 w.heap.size w.heap.size (Lib.byteCells ((dataIx L k).map (colTxt L got dev)).flatten) wr ∧ hasE ((dataIx L k).map (colTxt L got dev)) = false ∧ Below w.heap.size w wr ∧ w.heap.size + 1 ≤ wr.heap.size) (fun _ _ _ t _ => L.length - (RowKit.intOf t).toNat)
  case atStart => exact ⟨0, Nat.zero_le _, rfl, HI1.out.1, rfl, HI1.out.2.1, HI1.out.2.2⟩
  case round =>
    obtain ⟨k, hk, rfl, hI, hE, hb, hs⟩ := hrel
    have HB := Lib.hid hb
    have HI := Lib.hid hI
    have HE := Lib.hid hE
    have HS := Lib.hid hs
    clear hb hI hE hs
    by_cases hlt : k < L.length
    · obtain ⟨b, o, rfl, hbl, hcell⟩ := H.out.cells (by omega)
      obtain ⟨x, hx⟩ : ∃ x, L[k]? = some x := ⟨_, List.getElem?_eq_getElem hlt⟩
      obtain ⟨q0, q1, q2, q3⟩ := colsCells_at hx
      have hcl : ∀ j u, (colsCells L)[j]? = some u → wr.cell? ⟨b, o + j, none⟩ = some u := fun j u hu => (World.cell?_of_block (HB.out.block b hbl)).trans (hcell j u hu)
      have f0 : wr.cell? ⟨b, o + k * 4, none⟩ = some (.int .i64 x.1) := hcl _ _ q0
      have f1 : wr.cell? ⟨b, o + k * 4 + 1, none⟩ = some (.int .i64 x.2.1) := hcl _ _ q1
      have f2 : wr.cell? ⟨b, o + k * 4 + 2, none⟩ = some (.bool x.2.2.1) := hcl _ _ q2
      have f3 : wr.cell? ⟨b, o + k * 4 + 3, none⟩ = some (.int .i64 x.2.2.2) := hcl _ _ q3
      have hdc : decide (k < L.length) = true := decide_eq_true hlt
      have HLT := Lib.hid hlt
      have HX := Lib.hid hx
      have hi44 : (Tryz.prog.info? 44).map (·.size) = some (#[.int .i64 x.1, .int .i64 x.2.1, .bool x.2.2.1, .int .i64 x.2.2.2] : Array Value).size := by kernel_rfl
      have h1c : (#[.int .i64 x.1, .int .i64 x.2.1, .bool x.2.2.1, .int .i64 x.2.2.2] : Array Value).all (·.oneCell') = true := by kernel_rfl
      have Z2 : Blk (wr.alloc (.cells colZ 44)) wr.heap.size 44 colZ := Blk.new _ _ _
      have hth : (wr.alloc (.cells colZ 44)).there wr.heap.size 0 (#[.int .i64 x.1, .int .i64 x.2.1, .bool x.2.2.1, .int .i64 x.2.2.2] : Array Value).size := Z2.there (Nat.le_refl _)
      obtain ⟨w2, hw2⟩ : ∃ y, (wr.alloc (.cells colZ 44)).setCells wr.heap.size 0 (#[.int .i64 x.1, .int .i64 x.2.1, .bool x.2.2.1, .int .i64 x.2.2.2] : Array Value).toList = y := ⟨_, rfl⟩
      have X2 : Blk w2 wr.heap.size 44 #[.int .i64 x.1, .int .i64 x.2.1, .bool x.2.2.1, .int .i64 x.2.2.2] := by rw [← hw2]; exact Z2.putAll _ rfl
      have hb2 : Below wr.heap.size wr w2 := by rw [← hw2]; exact below_sets _ _ (keep_alloc (Below.refl _ _) _) (Nat.le_refl _)
      have hs2 : w2.heap.size = wr.heap.size + 1 := by rw [← hw2, sets_size', World.size_alloc]
      have HW2 := Lib.hid hw2
      have HX2 := Lib.hid X2
      have HK2 := Lib.hid hb2
      have HS2 := Lib.hid hs2
      have e2 : w2.cell? ⟨wr.heap.size, 2, none⟩ = some (.bool x.2.2.1) := X2.at_ rfl
      have e3 : w2.cell? ⟨wr.heap.size, 3, none⟩ = some (.int .i64 x.2.2.2) := X2.at_ rfl
      clear q0 q1 q2 q3 hcl hcell hx hbl hw2 X2 hb2 hs2 Z2
      have HD2B := Lib.hid (HB.out.trans (HK2.out.mono HB.out.size))
      have HI2 := Lib.hid (isB_keep HI.out HK2.out)
      have e0 : w2.cell? ⟨wr.heap.size, 0, none⟩ = some (.int .i64 x.1) := HX2.out.at_ rfl
      have hstep := dataIx_step L k
      rw [getD_at HX.out] at hstep
      clear e3
      cases hp : x.2.2.1 with
      | true =>
        rw [hp] at e2 hstep
        have HT : Hid (dataIx L (k + 1) = dataIx L k) := Lib.hid (by rw [hstep]; simp)
        clear hp hstep
        repeat' (first
          | (((with_reducible refine wpList_store_mid ?a1 44 (.tmp 9) (.tmp 17) ?a2 wr.heap.size 0 #[.int .i64 x.1, .int .i64 x.2.1, .bool x.2.2.1, .int .i64 x.2.2.2] ?a3 ?a4 hth hi44 h1c ?_); (case a1 => rfl); (case a2 => rfl); (case a3 => rfl); (case a4 => rfl); simp only [Act.put, List.setIfInBounds_toArray, List.set_cons_zero, List.set_cons_succ]; rw [HW2.out]))
          | go_values
          | go_skip
          | go_guarded
          | ((fail_if_success (with_reducible refine drawn_mark ?_))
             first
               | go_step
               | go_upon
               | go_back
               | (simp only [Int.not_lt, Int.not_le] at *; go_simp)
               | (go_values <;> (try go_simp))
               | (go_ite <;> go_prune <;> (try go_simp))
               | (split <;> (first | (rename_i hx; exact (hx _ rfl).elim) | go_prune))))
        go_roundw
        case rel => exact ⟨k + 1, HLT.out, by go_num, by rw [HT.out]; exact HI2.out, by rw [HT.out]; exact HE.out, HD2B.out, Nat.le_trans HS.out HK2.out.size⟩
        case measure => have := HLT.out; simp [RowKit.intOf]; omega
      | false =>
        rw [hp] at e2 hstep
        obtain ⟨s, hs⟩ : ∃ s, got[k]? = some s := ⟨_, List.getElem?_eq_getElem (by rw [HGL.out]; exact hlt)⟩
        obtain ⟨b2, o2, rfl, hl2, hc2⟩ := HG.out.cells (by omega)
        have gs : w2.cell? ⟨b2, o2 + k, none⟩ = some (str s) := keep_cell HD2B.out (hc2 k (str s) (strC_at hs)) hl2
        obtain ⟨u, hu⟩ : ∃ u, colTxt L got dev k = u := ⟨_, rfl⟩
        have HT : Hid ((dataIx L (k + 1)).map (colTxt L got dev) = (dataIx L k).map (colTxt L got dev) ++ [u]) := Lib.hid (by rw [hstep]; simp [hu])
        have HU : Hid (u = if x.1 == dev then againS L got k else s) := Lib.hid (by rw [← hu]; unfold colTxt; rw [getD_at HX.out, gotD_at hs])
        have HUL : Hid (u.length ≤ 64) := Lib.hid (by rw [← hu]; exact colTxt_le H64.out dev k)
        have HFL : Hid (((dataIx L k).map (colTxt L got dev)).flatten.length ≤ 64 * k) := Lib.hid (by
          refine Nat.le_trans (flat_le (fun s hs => ?_)) (Nat.mul_le_mul_left 64 (by rw [List.length_map]; exact dataIx_len L k))
          obtain ⟨i, _, rfl⟩ := List.mem_map.1 hs
          exact colTxt_le H64.out dev i)
        have hkg := hlt
        have HAG := Lib.hid (fun W (hW : Below w.heap.size w W) => again_any (HLL.out.below hW) (HGG.out.below hW) HGL.out hL64 H64.out hlt)
        obtain ⟨Y, hY⟩ : ∃ Y, (dataIx L k).map (colTxt L got dev) = Y := ⟨_, rfl⟩
        rw [hY] at HI2 HT HFL HE
        clear hp hstep hs hc2 hl2 hu hY HI HG
        cases hdv : (x.1 == dev) with
        | true =>
          rw [hdv] at HU
          repeat' (first
            | (((with_reducible refine wpList_store_mid ?a1 44 (.tmp 9) (.tmp 17) ?a2 wr.heap.size 0 #[.int .i64 x.1, .int .i64 x.2.1, .bool x.2.2.1, .int .i64 x.2.2.2] ?a3 ?a4 hth hi44 h1c ?_); (case a1 => rfl); (case a2 => rfl); (case a3 => rfl); (case a4 => rfl); simp only [Act.put, List.setIfInBounds_toArray, List.set_cons_zero, List.set_cons_succ]; rw [HW2.out]))
            | go_values
            | go_skip
            | go_guarded
            | ((fail_if_success (with_reducible refine drawn_mark ?_))
               first
                 | go_step
                 | go_upon
                 | go_back
                 | (simp only [Int.not_lt, Int.not_le] at *; go_simp)
                 | (go_values <;> (try go_simp))
                 | (go_ite <;> go_prune <;> (try go_simp))
                 | (split <;> (first | (rename_i hx; exact (hx _ rfl).elim) | go_prune))))
          refine (HAG.out w2 HD2B.out).mono ?_
          rintro e w3 ⟨rfl, hb3⟩
          have hU : againS L got k = u := by rw [HU.out]; rfl
          rw [hU]
          have HI3 := Lib.hid (isB_keep HI2.out hb3)
          have HB3 := Lib.hid (keep_below hb3 HD2B.out)
          have HB3s := Lib.hid hb3.size
          clear hb3 hU gs e0 e2 hdv HAG f0 f1 f2 f3
          by_cases hue : u = []
          · have hu1 : (u == []) = true := by rw [hue]; rfl
            have HEE : Hid (hasE ((dataIx L L.length).map (colTxt L got dev)) = true) := Lib.hid (by
              unfold hasE
              rw [List.any_eq_true]
              refine ⟨u, ?_, by rw [hue]; rfl⟩
              have hm : u ∈ (dataIx L (k + 1)).map (colTxt L got dev) := by rw [HT.out]; simp
              obtain ⟨i, hi, rfl⟩ := List.mem_map.1 hm
              refine List.mem_map.2 ⟨i, ?_, rfl⟩
              have h1 := HLT.out
              unfold dataIx at hi ⊢
              rw [List.mem_filter, List.mem_range] at hi ⊢
              exact ⟨by omega, hi.2⟩)
            rw [HEE.out] at HRES
            clear hue
            go_wp2_with fail
            go_ret
            rw [HRES.out]
            exact ⟨rfl, HB3.out⟩
          · have hu1 : (u == []) = false := beq_eq_false_iff_ne.2 hue
            have hu2 : u.isEmpty = false := by simpa using hue
            have HEE : Hid (hasE (Y ++ [u]) = false) := Lib.hid (by rw [hasE_snoc, HE.out, hu2]; rfl)
            have HS3 : Hid (w.heap.size + 1 ≤ w3.heap.size) := Lib.hid (Nat.le_trans HS.out (Nat.le_trans HK2.out.size (by first | exact Nat.le_refl _ | exact HB3s.out)))
            have HWS := Lib.hid (wrS_any w.heap.size w.heap.size _ u w3 HI3.out (by rw [Lib.byteCells_length]; have := HFL.out; have := HUL.out; rw [show (ByteArray.mk u.toArray).size = u.length from by simp [ByteArray.size]]; omega) (by have := HS3.out; omega))
            clear hue
            go_wp2_with fail
            refine HWS.out.mono ?_
            rintro e w4 ⟨rfl, hI4, hb4⟩
            have HI4 : Hid (Lib.IsBuilder 112 5 w.heap.size w.heap.size (Lib.byteCells (Y ++ [u]).flatten) w4) := Lib.hid (.inr (by
              have e : Lib.byteCells (Y ++ [u]).flatten = Lib.byteCells Y.flatten ++ Lib.strCells ⟨u.toArray⟩ := by show _ = Lib.byteCells Y.flatten ++ Lib.byteCells u; simp [Lib.byteCells]
              rw [e]; exact hI4))
            have HB4 := Lib.hid (And.intro (HB3.out.trans hb4) (Nat.le_trans HS3.out hb4.size))
            clear hI4 hb4
            go_wp2_with fail
            go_roundw
            case rel => exact ⟨k + 1, HLT.out, by go_num, by rw [HT.out]; exact HI4.out, by rw [HT.out]; exact HEE.out, HB4.out.1, HB4.out.2⟩
            case measure => have := HLT.out; simp [RowKit.intOf]; omega
        | false =>
          rw [hdv] at HU
          have hU : u = s := by rw [HU.out]; rfl
          subst hU
          have HI3 := HI2
          have HB3 := HD2B
          by_cases hue : u = []
          · have hu1 : (u == []) = true := by rw [hue]; rfl
            have HEE : Hid (hasE ((dataIx L L.length).map (colTxt L got dev)) = true) := Lib.hid (by
              unfold hasE
              rw [List.any_eq_true]
              refine ⟨u, ?_, by rw [hue]; rfl⟩
              have hm : u ∈ (dataIx L (k + 1)).map (colTxt L got dev) := by rw [HT.out]; simp
              obtain ⟨i, hi, rfl⟩ := List.mem_map.1 hm
              refine List.mem_map.2 ⟨i, ?_, rfl⟩
              have h1 := HLT.out
              unfold dataIx at hi ⊢
              rw [List.mem_filter, List.mem_range] at hi ⊢
              exact ⟨by omega, hi.2⟩)
            rw [HEE.out] at HRES
            clear hue
            repeat' (first
              | (((with_reducible refine wpList_store_mid ?a1 44 (.tmp 9) (.tmp 17) ?a2 wr.heap.size 0 #[.int .i64 x.1, .int .i64 x.2.1, .bool x.2.2.1, .int .i64 x.2.2.2] ?a3 ?a4 hth hi44 h1c ?_); (case a1 => rfl); (case a2 => rfl); (case a3 => rfl); (case a4 => rfl); simp only [Act.put, List.setIfInBounds_toArray, List.set_cons_zero, List.set_cons_succ]; rw [HW2.out]))
              | go_values
              | go_skip
              | go_guarded
              | ((fail_if_success (with_reducible refine drawn_mark ?_))
                 first
                   | go_step
                   | go_upon
                   | go_back
                   | (simp only [Int.not_lt, Int.not_le] at *; go_simp)
                   | (go_values <;> (try go_simp))
                   | (go_ite <;> go_prune <;> (try go_simp))
                   | (split <;> (first | (rename_i hx; exact (hx _ rfl).elim) | go_prune))))
            go_ret
            rw [HRES.out]
            exact ⟨rfl, HB3.out⟩
          · have hu1 : (u == []) = false := beq_eq_false_iff_ne.2 hue
            have hu2 : u.isEmpty = false := by simpa using hue
            have HEE : Hid (hasE (Y ++ [u]) = false) := Lib.hid (by rw [hasE_snoc, HE.out, hu2]; rfl)
            have HS3 : Hid (w.heap.size + 1 ≤ w2.heap.size) := Lib.hid (Nat.le_trans HS.out (Nat.le_trans HK2.out.size (by first | exact Nat.le_refl _ | exact HB3s.out)))
            have HWS := Lib.hid (wrS_any w.heap.size w.heap.size _ u w2 HI3.out (by rw [Lib.byteCells_length]; have := HFL.out; have := HUL.out; rw [show (ByteArray.mk u.toArray).size = u.length from by simp [ByteArray.size]]; omega) (by have := HS3.out; omega))
            clear hue
            repeat' (first
              | (((with_reducible refine wpList_store_mid ?a1 44 (.tmp 9) (.tmp 17) ?a2 wr.heap.size 0 #[.int .i64 x.1, .int .i64 x.2.1, .bool x.2.2.1, .int .i64 x.2.2.2] ?a3 ?a4 hth hi44 h1c ?_); (case a1 => rfl); (case a2 => rfl); (case a3 => rfl); (case a4 => rfl); simp only [Act.put, List.setIfInBounds_toArray, List.set_cons_zero, List.set_cons_succ]; rw [HW2.out]))
              | go_values
              | go_skip
              | go_guarded
              | ((fail_if_success (with_reducible refine drawn_mark ?_))
                 first
                   | go_step
                   | go_upon
                   | go_back
                   | (simp only [Int.not_lt, Int.not_le] at *; go_simp)
                   | (go_values <;> (try go_simp))
                   | (go_ite <;> go_prune <;> (try go_simp))
                   | (split <;> (first | (rename_i hx; exact (hx _ rfl).elim) | go_prune))))
            clear gs e0 e2 HAG f0 f1 f2 f3 hdv
            refine HWS.out.mono ?_
            rintro e w4 ⟨rfl, hI4, hb4⟩
            have HI4 : Hid (Lib.IsBuilder 112 5 w.heap.size w.heap.size (Lib.byteCells (Y ++ [u]).flatten) w4) := Lib.hid (.inr (by
              have e : Lib.byteCells (Y ++ [u]).flatten = Lib.byteCells Y.flatten ++ Lib.strCells ⟨u.toArray⟩ := by show _ = Lib.byteCells Y.flatten ++ Lib.byteCells u; simp [Lib.byteCells]
              rw [e]; exact hI4))
            have HB4 := Lib.hid (And.intro (HB3.out.trans hb4) (Nat.le_trans HS3.out hb4.size))
            clear hI4 hb4
            go_wp2_with fail
            go_roundw
            case rel => exact ⟨k + 1, HLT.out, by go_num, by rw [HT.out]; exact HI4.out, by rw [HT.out]; exact HEE.out, HB4.out.1, HB4.out.2⟩
            case measure => have := HLT.out; simp [RowKit.intOf]; omega
    · obtain rfl : k = L.length := by omega
      have hdc : decide ((L.length : Int) < L.length) = false := decide_eq_false (by omega)
      have HST := Lib.hid (stS_any w.heap.size w.heap.size _ wr HI.out (by have := HS.out; omega))
      rw [HE.out] at HRES
      obtain ⟨F, hF⟩ : ∃ F, ((dataIx L L.length).map (colTxt L got dev)).flatten = F := ⟨_, rfl⟩
      rw [hF] at HST HRES
      clear hF HI
      go_wp2_with fail
      refine HST.out.mono ?_
      rintro e w3 ⟨rfl, hb3⟩
      have HB3 := Lib.hid (HB.out.trans hb3)
      clear hb3
      go_wp2_with fail
      go_ret
      rw [HRES.out]
      exact ⟨rfl, HB3.out⟩
end Go.Proofs.YtppccdbfnhgdbaaGreat
