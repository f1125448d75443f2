/-
  Rows of whole numbers.
  cols.Devs: the devices of columns, each once, rising.
  Contracts of package code: parity's parts: slices.Clone of columns, the predicate, cols.Devs of the data.
  Contracts of package code: parity.
  Contracts of package code: Tries.
-/
import Derived.Test.YtbhkbcpljakmjaaGreatJ11
import Derived.Test.YtbhkbcpljakmjaaGreatJ18
import Derived.Test.YtbhkbcpljakmjaaGreatJ12
import Derived.Test.YtbhkbcpljakmjaaGreatShelf
import Derived.Sort.OwnSortedInts
import Derived.Test.YtbhkbcpljakmjaaGreatJ20
import Derived.RangeFuncKeeps
namespace Go.Proofs.YtbhkbcpljakmjaaGreat
set_option linter.unusedVariables false
set_option linter.unusedSimpArgs false
open Go.RowKit
theorem Tryz.infoInt : (Tryz.prog.info? 3).map (fun i => (i.zero, i.size, i.bytes)) = some (some (.int .i64 0), 1, 8) := by kernel_rfl
theorem new1 (w : World) (u : Value) (t : TypeId) : ∀ j v, [u][j]? = some v → (w.alloc (.cells #[u] t)).cell? ((⟨w.heap.size, 0, none⟩ : Addr).add j) = some v := by
 intro j v hj
 match j, hj with
 | 0, hj => simp at hj; subst hj; simp [Addr.add]
theorem new1' {w : World} {k : Nat} {u : Value} {t : TypeId} (hk : k = w.heap.size) : ∀ j v, [u][j]? = some v → (w.alloc (.cells #[u] t)).cell? ((⟨k, 0, none⟩ : Addr).add j) = some v := by subst hk; exact new1 w u t
def intCells (l : List Int) : List Value := l.map (Value.int .i64)
theorem intCells_snoc (l : List Int) (d : Int) : intCells (l ++ [d]) = intCells l ++ [.int .i64 d] := by simp [intCells]
theorem intCells_get {l : List Int} {k : Nat} {d : Int} (h : l[k]? = some d) : (intCells l)[k]? = some (.int .i64 d) := by simp [intCells, h]
end Go.Proofs.YtbhkbcpljakmjaaGreat

namespace Go.Proofs.YtbhkbcpljakmjaaGreat
set_option linter.unusedVariables false
set_option linter.unusedSimpArgs false
open Go.RowKit Go.Sort
def devsTo (L : List Col) (k : Nat) : List Int := (L.take k).map (·.1)
theorem devsTo_step {L : List Col} {k : Nat} {x : Col} (h : L[k]? = some x) : devsTo L (k + 1) = devsTo L k ++ [x.1] := by
 unfold devsTo; rw [List.take_add_one, h]; simp
theorem devsTo_len {L : List Col} {k : Nat} (h : k ≤ L.length) : (devsTo L k).length = k := by
 unfold devsTo; rw [List.length_map, List.length_take]; omega
theorem own_prefix {w : World} {base g cap n m : Nat} {e : TypeId} {xs ys : List Value} (h : w.ownsRow base e 1 (.slice (some ⟨g, 0, none⟩) n cap) n (xs ++ ys)) (hm : xs.length = m) :
 w.ownsRow base e 1 (.slice (some ⟨g, 0, none⟩) m cap) m xs := by
 have hl : (xs ++ ys).length = n * 1 := h.1
 have h1 : m ≤ n := by rw [List.length_append] at hl; omega
 have := own_take h1 h
 rw [Nat.mul_one, List.take_left' hm] at this
 exact this
set_option maxHeartbeats 1600000 in
theorem devsC_any (A : Option Addr) (n c : Nat) (L : List Col) (w : World) (hL : SlC w A n L) (hn0 : 0 < n) (hn1 : n ≤ 1000) :
 Calls Tryz.prog 120 #[.slice A n c] w fun e w' => ∃ v, e = .returned v ∧
  w'.ownsRow w.heap.size 3 1 v (devsL L).length (intCells (devsL L)) ∧ Below w.heap.size w w' := by
 obtain ⟨hl1, hl2, hL⟩ := hL
 obtain ⟨b1, o1, rfl, h1⟩ := hL hn0
 obtain ⟨i0, hi, hz0, hz1, hz2⟩ := info_parts Tryz.infoInt
 have Hl := Lib.hid hl1
 clear hL hl1
 go_enter Tryz.func120, Tryz.ntmps120
 go_wp2
 go_loopw [3, 8] (fun v t wr => ∃ k : Nat, k ≤ n ∧ t = .int .i64 k ∧ wr.ownsRow w.heap.size 3 1 v k (intCells (devsTo L k)) ∧ Below w.heap.size w wr) (fun _ t _ => n - (RowKit.intOf t).toNat)
 case atStart => exact ⟨0, Nat.zero_le _, rfl, World.ownsRow_nil _ _ _ _, Below.refl _ _⟩
 case round =>
  obtain ⟨k, hk, rfl, hown, hb⟩ := hrel
  by_cases hlt : k < n
  · obtain ⟨x, hx⟩ : ∃ x, L[k]? = some x := ⟨_, List.getElem?_eq_getElem (by have := Hl.out; omega)⟩
    obtain ⟨p1, p2, p3, p4⟩ := (h1.below hb (Nat.le_refl _)).2 k x hx
    have hs := Lib.hid (devsTo_step hx)
    clear hx
    go_wp2_with (at_builtin; refine wpList_append_own _ rfl _ _ 74 rfl w.heap.size 3 i0 _ 1 8 Tryz.underlying74 hi hz0 hz1 hz2 rfl (by decide) _ _ _ rfl ((hown.alloc _).alloc _) ⟨wr.heap.size + 1, 0, none⟩ 1 1 [.int .i64 x.1] rfl rfl ?c1 ?c2 (by unfold maxLen; omega) (by omega) ?c5 ?_)
    case c1 => exact new1' (by simp)
    case c2 => intro u hu; simp at hu; subst hu; rfl
    case c5 => have := hb.size; simp; omega
    intro v' w1 hown' hgrow _
    have hb2 : Below w.heap.size w w1 := ((hb.alloc hb.size _).alloc (by have := hb.size; simp; omega) _).grown hgrow (by have := hb.size; simp; omega) (fun k hk => (hown.lt k hk).1)
    have hown2 : w1.ownsRow w.heap.size 3 1 v' (k + 1) (intCells (devsTo L (k + 1))) := by
     rw [hs.out, intCells_snoc]; exact hown'
    clear hown hown' hgrow
    go_wp2_with fail
    go_roundw
    case rel => exact ⟨k + 1, by omega, by go_num, hown2, hb2⟩
    case measure => simp [RowKit.intOf]; omega
  · obtain rfl : k = n := by omega
    have hlen : (devsTo L k).length = k := devsTo_len (by have := Hl.out; omega)
    have hD : Hid (devsTo L k = L.map (·.1)) := by unfold Hid devsTo; rw [List.take_of_length_le (by have := Hl.out; omega)]
    rcases hown.2 with ⟨_, h0⟩ | ⟨g, cap, cur, rfl, hbg, hblk, hn, hcap, hcur, htake⟩
    · omega
    rw [Nat.mul_one] at htake
    have hgl : g < wr.heap.size := (Array.getElem?_eq_some_iff.1 hblk).1
    have hH : Holds (Value.int .i64) wr g 0 (devsTo L k).toArray := holds_of_blockI hblk (by rw [hlen]; exact htake)
    have HS := Lib.hid (Tryz.slices_Sort_int g 0 cap (devsTo L k) wr hH hgl (by omega))
    rw [hlen] at HS
    have HG := Lib.hid (fun (n : Nat) (os : Array Obj) (ts : List Int) (hl : ts.length = (devsTo L k).length) => ownsRow_sortedI (n := n) (os := os) hl hbg hblk (by omega) hcap hcur)
    have HB := Lib.hid hb
    have HK := Lib.hid hlen
    clear hown hblk hcur htake hb hlen hH
    go_wp2_with fail
    refine HS.out.mono ?_
    rintro e w2 ⟨rfl, nn, os, hw2⟩
    have hb3 : Below w.heap.size w w2 := by
     rw [hw2]; exact HB.out.grown (grownBy_sortedI _) HB.out.size (fun j hj => by cases hj; exact hbg)
    have hown2 := HG.out nn os ((devsTo L k).mergeSort fun x y => decide (x ≤ y)) (by simp)
    rw [← hw2, HK.out, hD.out] at hown2
    clear hw2 HG HS
    have hml : ((L.map (·.1)).mergeSort fun x y => decide (x ≤ y)).length = k := by rw [List.length_mergeSort, ← hD.out, HK.out]
    have HV : Hid (devsL L = Lib.compact ((L.map (·.1)).mergeSort fun x y => decide (x ≤ y))) := Lib.hid rfl
    generalize ((L.map (·.1)).mergeSort fun x y => decide (x ≤ y)) = zs at *
    rcases hown2.2 with ⟨h0, _⟩ | ⟨g', cap', cur, h0, hbg', hblk, hn', hcap', hcur, htake⟩
    · cases h0
    injection h0 with h5 h6 h7
    injection h5 with h5
    injection h5 with h5
    subst h5 h7
    rw [Nat.mul_one] at htake
    have hH2 : Holds (Value.int .i64) w2 g 0 zs.toArray := holds_of_blockI hblk (by rw [hml]; exact htake)
    have HC := Lib.hid (Tryz.slices_Compact_int g 0 cap zs w2 hH2 (by omega) (by omega))
    rw [hml] at HC
    have HG2 := Lib.hid (fun (n : Nat) (os : Array Obj) (ts : List Int) (hl : ts.length = zs.length) => ownsRow_sortedI (n := n) (os := os) hl hbg hblk (by omega) hcap hcur)
    have HM := Lib.hid hml
    clear hown2 hblk hcur htake hml hH2
    go_wp2_with fail
    refine HC.out.mono ?_
    rintro e w3 ⟨rfl, q, hw3⟩
    have hlc := Lib.compact_length_le zs
    have hb4 : Below w.heap.size w w3 := by
     rw [hw3, ← grow_empty (putRow _ _ _ _ _)]; exact hb3.grown (grownBy_sortedI _) hb3.size (fun j hj => by cases hj; exact hbg)
    have hown3 := HG2.out q #[] (Lib.compact zs ++ List.replicate (zs.length - (Lib.compact zs).length) 0) (by simp; omega)
    rw [grow_empty] at hown3
    rw [HM.out] at hown3
    rw [← hw3] at hown3
    clear hw3 HG2 HC
    go_wp2_with fail
    go_ret
    refine ⟨_, rfl, ?_, hb4⟩
    rw [HV.out]
    rw [List.map_append] at hown3
    exact own_prefix hown3 (by simp [intCells])
end Go.Proofs.YtbhkbcpljakmjaaGreat

namespace Go.Proofs.YtbhkbcpljakmjaaGreat
set_option linter.unusedVariables false
set_option linter.unusedSimpArgs false
open Go.RowKit
theorem colsCells_one (L : List Col) : ∀ u ∈ colsCells L, u.oneCell' = true := by
 intro u hu
 obtain ⟨c, _, hc⟩ := List.mem_flatMap.1 hu
 exact col_one c u hc
set_option maxRecDepth 20000 in
theorem cloneC_any {w : World} {b off m c : Nat} {L : List Col} (hl : SlAt w (.slice (some ⟨b, off, none⟩) m c) m (colsCells L)) (hm : L.length = m) (h0 : 0 < m) (f1 : L.length ≤ 1000) :
 Calls Tryz.prog 118 #[.slice (some ⟨b, off, none⟩) m c] w fun e w' => ∃ g cap, e = .returned (.slice (some ⟨g, 0, none⟩) m cap) ∧ w'.ownsRow w.heap.size 71 4 (.slice (some ⟨g, 0, none⟩) m cap) m (colsCells L) ∧ Below w.heap.size w w' := by
 obtain ⟨i0, hi, hz0, hz1, hz2⟩ := info_parts Tryz.infoCol
 obtain ⟨A, c', e, hc', hg⟩ := hl
 cases e
 obtain ⟨b', off', e, hbl, hcs⟩ := hg h0
 cases e
 subst hm
 have H := Lib.hid hcs
 have hq : ∀ W, (binOp .eql 66 (.slice (some ⟨b, off, none⟩) L.length c) (.slice none 0 0)).run Tryz.prog W = .ok (.bool false) W := fun W => Lib.run_eql_slice_nil W _ _ (some ⟨b, off, none⟩) _ _ _ _ Tryz.underlying66
 clear hcs hg
 go_enter Tryz.func118, Tryz.ntmps118
 have hown : (w.alloc (.cells #[] 71)).ownsRow w.heap.size 71 4 (.slice (some ⟨w.heap.size, 0, none⟩) 0 0) 0 [] :=
  ⟨rfl, .inr ⟨w.heap.size, 0, #[], rfl, Nat.le_refl _, heap_alloc_new w _, Nat.le_refl _, by unfold maxLen; omega, rfl, rfl⟩⟩
 have hnews : ∀ j u, (colsCells L)[j]? = some u → (w.alloc (.cells #[] 71)).cell? ((⟨b, off, none⟩ : Addr).add j) = some u := fun j u hu => by
  rw [Addr.add_mid]
  exact cell_alloc (H.out j u hu) _
 go_wp2_with (at_builtin; refine wpList_append_own_at _ rfl _ _ 66 rfl w.heap.size 71 i0 _ 4 32 Tryz.underlying66 hi hz0 hz1 hz2 rfl (by decide) _ _ _ rfl hown ⟨b, off, none⟩ L.length c (colsCells L) rfl (colsCells_len L) hnews (colsCells_one L) (by unfold maxLen; omega) (by omega) (by simp) ?_)
 intro v' w8 hown' hgrow _ _
 have hown' : w8.ownsRow w.heap.size 71 4 v' L.length (colsCells L) := by simpa using hown'
 obtain ⟨g, cap, rfl, _, _⟩ := hown'.form (by omega)
 have HO := Lib.hid hown'
 have HB : Hid (Below w.heap.size w w8) := Lib.hid ((keep_alloc (Below.refl _ w) _).grown hgrow (by simp) (fun y e => by simp [Value.ownBlock] at e; omega))
 clear hown' hgrow hown hnews
 go_wp2_with fail
 go_ret
 exact ⟨g, cap, rfl, HO.out, HB.out⟩
theorem goesPar1 : Goes 119 := enters_of Tryz.func119 (by kernel_rfl) (by kernel_rfl)
theorem par1_any (B : Nat) (w0 : World) : ColPred 119 #[] (fun x => x.2.2.1) B w0 := by
 intro x w _
 go_enter Tryz.func119, Tryz.ntmps119
 go_wp2
 go_ret
 exact ⟨rfl, by repeat (first | exact Below.refl _ _ | (with_reducible refine keep_alloc ?_ _))⟩
end Go.Proofs.YtbhkbcpljakmjaaGreat

namespace Go.Proofs.YtbhkbcpljakmjaaGreat
set_option linter.unusedVariables false
set_option linter.unusedSimpArgs false
open Go.RowKit
attribute [local go_sem] Oper.semAt_some
def parTk (L : List Col) (got : List (List UInt8)) (k : Nat) : List TryX := ((parDevs L).take k).filterMap (parOne L got)
theorem parTk_step {L : List Col} {got : List (List UInt8)} {k : Nat} {d : Int} (h : (parDevs L)[k]? = some d) : parTk L got (k + 1) = parTk L got k ++ (parOne L got d).toList := by
 unfold parTk
 rw [List.take_add_one, h, List.filterMap_append]
 congr 1
theorem parTk_all (L : List Col) (got : List (List UInt8)) : parTk L got (parDevs L).length = parT L got := by unfold parTk parT; rw [List.take_length]
theorem parTk_prefix (L : List Col) (got : List (List UInt8)) {k m : Nat} (h : k ≤ m) : parTk L got k <+: parTk L got m := by
 unfold parTk
 have : (parDevs L).take k <+: (parDevs L).take m := List.take_prefix_take_left h
 obtain ⟨t, ht⟩ := this
 rw [← ht, List.filterMap_append]
 exact List.prefix_append _ _
theorem devsL_pos {L : List Col} (h : 0 < L.length) : 0 < (devsL L).length := by
 obtain ⟨c, hc⟩ : ∃ c, L[0]? = some c := ⟨_, List.getElem?_eq_getElem h⟩
 have := ((devsL_spec L).2 c.1).2 ⟨c, List.mem_of_getElem? hc, rfl⟩
 exact List.length_pos_of_mem this
theorem intCells_one (l : List Int) : ∀ u ∈ intCells l, u.oneCell' = true := by
 intro u hu
 obtain ⟨d, _, rfl⟩ := List.mem_map.1 hu
 rfl
set_option maxRecDepth 20000 in
set_option maxHeartbeats 2000000 in
theorem parity_in (n : Nat) {L : List Col} {got : List (List UInt8)} {Pn : List TryX → Prop} (l : Nat) {V : Nat → Prop} {J Jx : List TryX → World → Prop} {lv gv : Value} {W : World} (hL : SlV W V lv L.length (colsCells L)) (hG : SlV W V gv got.length (strC got))
 (hgl : got.length = L.length) (hL64 : L.length ≤ 64) (hd : 0 < (L.filter fun c => !c.2.2.1).length) (h64 : ∀ s ∈ got, s.length ≤ 64) (hV : ∀ b, V b → b < W.heap.size) (hJ : AbidesFrom W.heap.size J)
 (hY : ∀ pre x W1, J pre W1 → Pn (pre ++ [x]) → YieldAt Fence.wide (n - 1) Tryz.prog l (tryE x) W1 fun e W' => (e = .returned (.bool true) ∧ J (pre ++ [x]) W' ∧ KC V W1 W') ∨ (e = .returned (.bool false) ∧ Jx (pre ++ [x]) W'))
 (hN : ∀ p, p <+: parT L got → Pn p) (h0 : J [] W) :
 CallsIn Fence.wide n Tryz.prog 90 #[lv, gv, .func (.yield l) #[] #[]] W fun e W' => (∃ v, e = .returned v) ∧ ((∃ xs, xs = parT L got ∧ J xs W') ∨ (∃ pre, pre <+: parT L got ∧ Jx pre W')) := by
 obtain ⟨Al, cl, rfl⟩ := hL.form
 obtain ⟨Ag, cg, rfl⟩ := hG.form
 have hL0 : 0 < L.length := Nat.lt_of_lt_of_le hd (List.length_filter_le _ _)
 obtain ⟨A0, c0, e0, hcl, hcell⟩ := id hL
 cases e0
 obtain ⟨bl, ol, rfl, _⟩ := hcell hL0
 have HCL := Lib.hid (cloneC_any hL.to rfl hL0 (by omega))
 rw [hgl] at hG ⊢
 obtain ⟨D, hD⟩ : ∃ D, D = L.filter fun c => !c.2.2.1 := ⟨_, rfl⟩
 rw [← hD] at hd
 have hDl : D.length ≤ 64 := by rw [hD]; exact Nat.le_trans (List.length_filter_le _ _) hL64
 obtain ⟨dl, hdl⟩ : ∃ dl, dl = devsL D := ⟨_, rfl⟩
 have hdp : 0 < dl.length := by rw [hdl]; exact devsL_pos hd
 have hdle : dl.length ≤ 64 := by rw [hdl]; exact Nat.le_trans (devsL_len D) hDl
 have hpd : parDevs L = -1 :: dl := by unfold parDevs; rw [← hD, ← hdl]
 have HL := Lib.hid hL
 have HG := Lib.hid hG
 have HGL := Lib.hid hgl
 have H64 := Lib.hid h64
 have HV := Lib.hid hV
 have HJ := Lib.hid hJ
 have HY := Lib.hid hY
 have HN := Lib.hid hN
 have HJ0 := Lib.hid h0
 have HD := Lib.hid hD
 have HDL := Lib.hid hdl
 have HPD := Lib.hid hpd
 clear hL hG hgl h64 hV hJ hY hN h0 hD hdl hpd hcell
 refine callsIn_of_wp Tryz.func90 rfl trivial ?_ rfl
 simp only [Tryz.ntmps90, List.size_toArray, List.length_cons, List.length_nil, Nat.reduceAdd, Nat.reduceSub, Array.replicate_succ, Array.replicate_zero, List.push_toArray, List.append_toArray, List.nil_append, List.cons_append]
 gi_wp2_with fail
 refine ⟨trivial, fun h => (by cases h), callsIn_wide.2 (HCL.out.mono ?_)⟩
 rintro e w1 ⟨g, cap, rfl, hown1, hb1⟩
 have HDC := Lib.hid (deleteC_any 119 #[] (fun x => x.2.2.1) W.heap.size g cap L.length L w1 rfl (by omega) hown1 hb1.size goesPar1 (par1_any _ _))
 have HB1 := Lib.hid hb1
 clear hown1 hb1 HCL
 gi_wp2_with fail
 refine ⟨trivial, fun h => (by cases h), callsIn_wide.2 (HDC.out.mono ?_)⟩
 rintro e w2 ⟨rfl, hown2, hb2⟩
 rw [← HD.out] at hown2
 have HB2 : Hid (Below W.heap.size W w2) := Lib.hid (HB1.out.trans hb2)
 have HO2 := Lib.hid hown2
 rw [← HD.out]
 clear hown2 hb2 HDC
 obtain ⟨w3, hw3⟩ : ∃ z, w2.alloc (.cells #[.int .i64 (-1)] 3) = z := ⟨_, rfl⟩
 have HW3 := Lib.hid hw3
 have HB3 : Hid (Below W.heap.size W w3) := Lib.hid (by rw [← hw3]; exact keep_alloc HB2.out _)
 have hown3 : w3.ownsRow w2.heap.size 3 1 (.slice (some ⟨w2.heap.size, 0, none⟩) 1 1) 1 (intCells [-1]) := by
  rw [← hw3]
  exact ⟨rfl, .inr ⟨w2.heap.size, 1, _, rfl, Nat.le_refl _, heap_alloc_new w2 _, Nat.le_refl _, by unfold maxLen; omega, rfl, rfl⟩⟩
 have HS3 : Hid (w2.heap.size < w3.heap.size) := Lib.hid (by rw [← hw3]; simp)
 have HO3 := Lib.hid hown3
 have hO2 : w3.ownsRow W.heap.size 71 4 (.slice (some ⟨g, 0, none⟩) D.length cap) D.length (colsCells D) := by rw [← hw3]; exact own_below HO2.out (keep_alloc (Below.refl _ _) _)
 obtain ⟨A5, c5, e5, hSl⟩ := slC_of_own hO2 (by omega)
 cases e5
 have HDV := Lib.hid (devsC_any (some ⟨g, 0, none⟩) D.length cap D w3 hSl hd (by omega))
 clear hw3 hown3 hO2 hSl
 gi_wp2_with fail
 rw [HW3.out]
 refine ⟨trivial, fun h => (by cases h), callsIn_wide.2 (HDV.out.mono ?_)⟩
 rintro e w4 ⟨v4, rfl, hown4, hb4⟩
 rw [← HDL.out] at hown4
 obtain ⟨g4, cap4, rfl, _, _⟩ := hown4.form (by omega)
 have HB4 : Hid (Below W.heap.size W w4) := Lib.hid (HB3.out.trans (hb4.mono HB3.out.size))
 have hown5 := own_below HO3.out hb4
 have hnews : ∀ j u, (intCells dl)[j]? = some u → w4.cell? ((⟨g4, 0, none⟩ : Addr).add j) = some u := fun j u hu => by
  rw [Addr.add_mid, Nat.zero_add]
  have hj : j < dl.length := by have := (List.getElem?_eq_some_iff.1 hu).1; simpa [intCells] using this
  exact (hown4.cellAt j (by omega)).trans hu
 have HS4 : Hid (w2.heap.size < w4.heap.size) := Lib.hid (Nat.lt_of_lt_of_le HS3.out hb4.size)
 obtain ⟨i0, hi, hz0, hz1, hz2⟩ := info_parts Tryz.infoInt
 clear hown4 hb4
 gi_wp2_with (gi_at_builtin; refine wpListIn_append_own _ rfl _ _ 74 rfl w2.heap.size 3 i0 _ 1 8 Tryz.underlying74 hi hz0 hz1 hz2 rfl (by decide) _ _ _ rfl hown5 ⟨g4, 0, none⟩ dl.length cap4 (intCells dl) rfl (by simp [intCells]) hnews (intCells_one dl) (by unfold maxLen; omega) (by omega) (by have := HS4.out; omega) ?_)
 intro v' w5 hown6 hgrow _
 have hB5 : Below W.heap.size W w5 := HB4.out.grown hgrow HB4.out.size (fun y e => by simp [Value.ownBlock] at e; have := HB2.out.size; omega)
 obtain ⟨m, hm⟩ : ∃ m, m = 1 + dl.length := ⟨_, rfl⟩
 rw [← hm] at hown6
 obtain ⟨g6, cap6, rfl, _, _⟩ := hown6.form (by omega)
 have hcells : ∀ k d, (parDevs L)[k]? = some d → w5.cell? ⟨g6, k, none⟩ = some (.int .i64 d) := fun k d hk => by
  have hj : k < m := by have := (List.getElem?_eq_some_iff.1 hk).1; rw [HPD.out] at this; simp at this; omega
  refine (hown6.cellAt k (by omega)).trans ?_
  rw [HPD.out] at hk
  have := intCells_get hk
  simpa [intCells] using this
 have hg6 : ¬ V g6 := fun h => by
  have := HV.out _ h
  have := (hown6.lt g6 rfl).1
  have := HB2.out.size
  omega
 have HCL := Lib.hid hcells
 have HG6 := Lib.hid hg6
 have HB5 := Lib.hid hB5
 have HM : Hid ((parDevs L).length = m) := Lib.hid (by rw [HPD.out, hm]; simp; omega)
 have hm64 : m ≤ 65 := by omega
 clear hcells hg6 hB5 hown6 hown5 hgrow hnews hm HO3 HO2 HW3
 gi_wp2_with fail
 gi_loopw [8, 9, 18] (fun _ _ t wr => ∃ k : Nat, k ≤ m ∧ t = .int .i64 k ∧ J (parTk L got k) wr ∧ KC V W wr ∧ KC V w5 wr) (fun _ _ t _ => m - (RowKit.intOf t).toNat)
 case atStart => exact ⟨0, Nat.zero_le _, rfl, abides_below HJ.out HJ0.out HB5.out, kc_below HB5.out, KC.refl _ _⟩
 case round =>
  obtain ⟨k, hk, rfl, hJk, hkc, hk5⟩ := hrel
  have HJK := Lib.hid hJk
  have HKC := Lib.hid hkc
  have HK5 := Lib.hid hk5
  clear hJk hkc hk5
  by_cases hlt : k < m
  · have HLT := Lib.hid hlt
    have hdc : decide (k < m) = true := decide_eq_true hlt
    obtain ⟨d, hd'⟩ : ∃ d, (parDevs L)[k]? = some d := ⟨_, List.getElem?_eq_getElem (by rw [HM.out]; exact hlt)⟩
    have hcell : wr.cell? ⟨g6, k, none⟩ = some (.int .i64 d) := HK5.out.2 _ _ _ HG6.out (HCL.out k d hd')
    have hstep := parTk_step (got := got) hd'
    have hwi := without_any (dev := d) (HL.out.kc HKC.out).to (by have := (HG.out.kc HKC.out).to; rw [HGL.out]; exact this) HGL.out hL64 H64.out
    obtain ⟨s, hs⟩ : ∃ s, s = withS L got d := ⟨_, rfl⟩
    have hone : parOne L got d = if s.isEmpty then none else some (d, s) := by unfold parOne; rw [← hs]
    rw [← hs] at hwi
    rw [hone] at hstep
    have HWI := Lib.hid hwi
    have HST := Lib.hid hstep
    clear hlt hd' hstep hone hs hwi
    gi_wp2_with fail
    refine ⟨trivial, fun h => (by cases h), callsIn_wide.2 (HWI.out.mono ?_)⟩
    rintro e w6 ⟨rfl, hb6⟩
    have HKW : Hid (KC V wr w6) := Lib.hid (kc_below hb6)
    have hJ6 : J (parTk L got k) w6 := abides_below HJ.out HJK.out hb6
    have HJ6 := Lib.hid hJ6
    clear hb6 hJ6 HWI
    cases hse : s.isEmpty with
    | true =>
     obtain rfl : s = [] := by simpa using hse
     have HT : Hid (parTk L got (k + 1) = parTk L got k) := Lib.hid (by rw [HST.out]; simp)
     clear hse
     gi_wp2_with fail
     refine ⟨fun f h => (by cases h), ?_⟩
     gi_wp2_with fail
     go_roundw
     case rel => exact ⟨k + 1, HLT.out, by go_num, by rw [HT.out]; exact HJ6.out, HKC.out.trans HKW.out, HK5.out.trans HKW.out⟩
     case measure => have := HLT.out; simp [RowKit.intOf]; omega
    | false =>
     have HT : Hid (parTk L got (k + 1) = parTk L got k ++ [(d, s)]) := Lib.hid (by rw [HST.out, hse]; simp)
     obtain ⟨fn, tmps, assign, body, hy, hR⟩ := HY.out (parTk L got k) (d, s) w6 HJ6.out (HN.out _ (by rw [← HT.out, ← parTk_all]; exact parTk_prefix L got (by rw [HM.out]; exact HLT.out)))
     dsimp only [tryE] at hy
     have HR := Lib.hid hR
     clear hR
     gi_wp2_with fail
     refine ⟨fun h => (by cases h), HR.out.mono ?_⟩
     rintro e w7 (⟨rfl, hJ7, hk7⟩ | ⟨rfl, hJx7⟩)
     · have HKF : Hid (J (parTk L got (k + 1)) w7 ∧ KC V W w7 ∧ KC V w5 w7) := Lib.hid ⟨by rw [HT.out]; exact hJ7, (HKC.out.trans HKW.out).trans hk7, (HK5.out.trans HKW.out).trans hk7⟩
       clear hJ7 hk7 hy
       gi_wp2_with fail
       go_roundw
       case rel => exact ⟨k + 1, HLT.out, by go_num, HKF.out.1, HKF.out.2.1, HKF.out.2.2⟩
       case measure => have := HLT.out; simp [RowKit.intOf]; omega
     · have HJX : Hid (Jx (parTk L got (k + 1)) w7) := Lib.hid (by rw [HT.out]; exact hJx7)
       have HPR : Hid (parTk L got (k + 1) <+: parT L got) := Lib.hid (by rw [← parTk_all]; exact parTk_prefix L got (by rw [HM.out]; exact HLT.out))
       clear hJx7 hy
       gi_wp2_with fail
       refine bodyPost_ret (results_none rfl _ _ _) rfl ?_
       exact ⟨⟨_, rfl⟩, .inr ⟨_, HPR.out, HJX.out⟩⟩
  · obtain rfl : k = m := by omega
    have hdc : decide (k < k) = false := by simp
    gi_wp2_with fail
    go_end0
    exact ⟨⟨_, rfl⟩, .inl ⟨_, rfl, by rw [← parTk_all, HM.out]; exact HJK.out⟩⟩
end Go.Proofs.YtbhkbcpljakmjaaGreat

namespace Go.Proofs.YtbhkbcpljakmjaaGreat
set_option linter.unusedVariables false
set_option linter.unusedSimpArgs false
open Go.RowKit
attribute [local go_sem] Oper.semAt_some
theorem tcolsOf_len {gs : List (Int × Int)} {secs pg pa size : Int} (h : cMay gs secs pg pa size = true) : (colsOf gs secs pg pa size).length ≤ 64 := by
 obtain ⟨hhas, hz1, hz2, _⟩ := cMay_true h
 obtain ⟨sz, rfl⟩ := Int.eq_ofNat_of_zero_le (show 0 ≤ size by omega)
 obtain ⟨g, x, rfl, hk, hl4, hs1, hs2, hx, hgx, ho⟩ := gHas_true hhas
 unfold colsOf
 rw [hgx]
 obtain ⟨kd, wd⟩ := x
 split
 · rw [mirror, mirTo_len]
   have : wd.toNat ≤ 8 := by have := gOne_true ho; simp only at this; omega
   have := Nat.mul_le_mul this (show (sz : Int).toNat ≤ 4 by omega)
   simp only at this ⊢
   omega
 · have := parTo_len (gFirst gs secs g) wd pa (sz : Int).toNat
   simp only at this ⊢
   omega
theorem tpar_count (first wide at_ : Int) (k : Nat) : ((parTo first wide at_ k).filter (fun x => !x.2.2.1)).length = k := by
 induction k with
 | zero => rfl
 | succ k ih =>
  rw [parTo]
  split <;> simp [List.filter_append, pcol, ih]
theorem fits_parts {gs : List (Int × Int)} {secs pg pa size : Int} {got : List (List UInt8)} (h : fitsB gs secs pg pa size got = true) :
 cMay gs secs pg pa size = true ∧ got.length = (colsOf gs secs pg pa size).length ∧ ∀ s ∈ got, s.length ≤ 64 := by
 unfold fitsB at h
 simp only [Bool.and_eq_true, beq_iff_eq, Bool.not_eq_true', List.any_eq_false] at h
 obtain ⟨⟨h1, h2⟩, h3⟩ := h
 refine ⟨h1, h2, fun s hs => ?_⟩
 have h4 := h3 s hs
 unfold fitP at h4
 cases s with
 | nil => simp
 | cons x r =>
  simp only [List.isEmpty_cons, Bool.not_false, Bool.true_and, bne_iff_ne, ne_eq, Decidable.not_not] at h4
  omega
structure TryBx (w : World) (b0 b1 b2 b3 : Nat) (A : Option Addr) (m cc : Nat) (secs pg pa size : Int) (gv : Value) : Prop where
 c0 : w.cell? ⟨b0, 0, none⟩ = some (.slice A m cc)
 c1 : w.cell? ⟨b0, 1, none⟩ = some (.int .i64 secs)
 c2 : w.cell? ⟨b1, 0, none⟩ = some (.int .i64 pg)
 c3 : w.cell? ⟨b1, 1, none⟩ = some (.int .i64 pa)
 c4 : w.cell? ⟨b2, 0, none⟩ = some (.int .i64 size)
 c5 : w.cell? ⟨b3, 0, none⟩ = some gv
theorem keep_cell' {W W' : World} {b o : Nat} {v : Value} (h : W.cell? ⟨b, o, none⟩ = some v) (hb : Below W.heap.size W W') : W'.cell? ⟨b, o, none⟩ = some v :=
 (World.cell?_of_block (hb.block b (World.block_lt_of_cell? W _ h))).trans h
theorem TryBx.keep {w w' : World} {b0 b1 b2 b3 : Nat} {A : Option Addr} {m cc : Nat} {secs pg pa size : Int} {gv : Value} (h : TryBx w b0 b1 b2 b3 A m cc secs pg pa size gv) (hb : Below w.heap.size w w') : TryBx w' b0 b1 b2 b3 A m cc secs pg pa size gv :=
 ⟨keep_cell' h.c0 hb, keep_cell' h.c1 hb, keep_cell' h.c2 hb, keep_cell' h.c3 hb, keep_cell' h.c4 hb, keep_cell' h.c5 hb⟩
theorem abidesFrom_mono {β : Type} {B B' : Nat} {J : β → World → Prop} (h : AbidesFrom B J) (hB : B ≤ B') : AbidesFrom B' J := fun s W W' row hs hg hr => h s W W' row hs hg (fun r e => by
 have := hr r e
 exact ⟨Nat.le_trans hB this.1, this.2⟩)
def SeqStopsP {α : Type} (F : Fence) (n : Nat) (P : Program) (g : Nat) (lb : Array Value) (encs : α → Array Value) (Kp : World → World → Prop) (xs : List α) (w : World) : Prop :=
 ∀ (l : Nat) (J Jx : List α → World → Prop) (W : World), Below w.heap.size w W → AbidesFrom W.heap.size J → AbidesFrom W.heap.size Jx →
   (∀ pre x W1, J pre W1 → pre ++ [x] <+: xs → YieldAt F (n - 1) P l (encs x) W1 fun e W' => (e = .returned (.bool true) ∧ J (pre ++ [x]) W' ∧ Kp W1 W') ∨ (e = .returned (.bool false) ∧ Jx (pre ++ [x]) W')) →
   J [] W → CallsIn F n P g (#[.func (.yield l) #[] #[]] ++ lb) W fun e W' => (∃ v, e = .returned v) ∧ ((∃ ys, ys = xs ∧ J ys W') ∨ (∃ pre, pre <+: xs ∧ Jx pre W'))
theorem SeqStopsP.sub {α : Type} {F : Fence} {n : Nat} {P : Program} {g : Nat} {lb : Array Value} {encs : α → Array Value} {Kp : World → World → Prop} {xs : List α} {w : World} (h : SeqStopsP F n P g lb encs Kp xs w) :
 SeqStopsK F n P g lb (fun x : {x : α // x ∈ xs} => encs x.1) Kp (fun l => l.map (·.1) = xs) (fun l => l.map (·.1) <+: xs) xs.length w := by
 intro l J Jx W hb hJ hJx hY h0
 refine (h l (fun p W => ∃ q : List {x : α // x ∈ xs}, q.map (·.1) = p ∧ J q W) (fun p W => ∃ q : List {x : α // x ∈ xs}, q.map (·.1) = p ∧ Jx q W) W hb ?_ ?_ ?_ ⟨[], rfl, h0⟩).mono ?_
 · rintro s A B row ⟨q, hq, hs⟩ hg hr
   exact ⟨q, hq, hJ q A B row hs hg hr⟩
 · rintro s A B row ⟨q, hq, hs⟩ hg hr
   exact ⟨q, hq, hJx q A B row hs hg hr⟩
 · rintro pre x W1 ⟨q, rfl, hq⟩ hpre
   have hx : x ∈ xs := hpre.subset (List.mem_append_right _ List.mem_cons_self)
   have hl := hpre.length_le
   rw [List.length_append, List.length_map] at hl
   obtain ⟨fn, tmps, assign, body, hy, hR⟩ := hY q ⟨x, hx⟩ W1 hq (by simp at hl; omega)
   refine ⟨fn, tmps, assign, body, hy, hR.mono ?_⟩
   rintro e W' (⟨rfl, k1, k2⟩ | ⟨rfl, k1⟩)
   · exact .inl ⟨rfl, ⟨_, by rw [List.map_append]; rfl, k1⟩, k2⟩
   · exact .inr ⟨rfl, _, by rw [List.map_append]; rfl, k1⟩
 · rintro e W' ⟨hv, h1⟩
   refine ⟨hv, ?_⟩
   rcases h1 with ⟨ys, rfl, q, hq, hj⟩ | ⟨pre, hp, q, hq, hj⟩
   · exact .inl ⟨q, hq, hj⟩
   · exact .inr ⟨q, by show List.map _ q <+: xs; rw [hq]; exact hp, hj⟩
theorem SeqStopsP.all {α : Type} {F : Fence} {n : Nat} {P : Program} {g : Nat} {lb : Array Value} {encs : α → Array Value} {Kp : World → World → Prop} {xs : List α} {w : World} (h : SeqStopsP F n P g lb encs Kp xs w) :
 SeqStopsK F n P g lb encs Kp (fun l => l = xs) (fun l => l <+: xs) xs.length w := fun l J Jx W hb hJ hJx hY h0 =>
 h l J Jx W hb hJ hJx (fun pre x W1 h1 h2 => hY pre x W1 h1 (by have := h2.length_le; simp at this; omega)) h0
set_option maxRecDepth 20000 in
set_option maxHeartbeats 2000000 in
theorem tries_seqP (n : Nat) {w : World} {V : Nat → Prop} {b0 b1 b2 b3 : Nat} {A : Option Addr} {m cc : Nat} {gs : List (Int × Int)} {secs pg pa size : Int} {gv : Value} {got : List (List UInt8)} (hx : TryBx w b0 b1 b2 b3 A m cc secs pg pa size gv)
 (hg : GeoAt w A m gs) (hs : SlV w V gv got.length (strC got)) (hV : ∀ b, V b → b < w.heap.size) :
 SeqStopsP Fence.wide n Tryz.prog 87 #[.pointer (some ⟨b0, 0, none⟩), .pointer (some ⟨b1, 0, none⟩), .pointer (some ⟨b2, 0, none⟩), .pointer (some ⟨b3, 0, none⟩)] tryE (KC V) (triesL gs secs pg pa size got) w := by
 intro l J Jx W hb hJ hJx hY h0
 have hX := hx.keep hb
 obtain ⟨Ag, cg, rfl⟩ := hs.form
 have hF := fits_any A m cc gs secs pg pa size (hg.below hb (Nat.le_refl _)) (hs.kc (kc_below hb)).to
 have HG := Lib.hid (hg.below hb (Nat.le_refl _))
 have HS := Lib.hid (hs.kc (V := V) (kc_below hb))
 have HV : Hid (∀ b, V b → b < W.heap.size) := Lib.hid fun b h => Nat.lt_of_lt_of_le (hV b h) hb.size
 have HJ := Lib.hid hJ
 have HY := Lib.hid hY
 have HJ0 := Lib.hid h0
 have HX := Lib.hid hX
 obtain ⟨x0, x1, x2, x3, x4, x5⟩ := hX
 clear hx hg hs hV hb hJ hJx hY h0
 show CallsIn Fence.wide n Tryz.prog 87 #[.func (.yield l) #[] #[], .pointer (some ⟨b0, 0, none⟩), .pointer (some ⟨b1, 0, none⟩), .pointer (some ⟨b2, 0, none⟩), .pointer (some ⟨b3, 0, none⟩)] W _
 refine callsIn_of_wp Tryz.func87 rfl trivial ?_ rfl
 simp only [Tryz.ntmps87, List.size_toArray, List.length_cons, List.length_nil, Nat.reduceAdd, Nat.reduceSub, Array.replicate_succ, Array.replicate_zero, List.push_toArray, List.append_toArray, List.nil_append, List.cons_append]
 cases hfit : fitsB gs secs pg pa size got with
 | false =>
  rw [hfit] at hF
  have HF := Lib.hid hF
  have HT : Hid (triesL gs secs pg pa size got = []) := Lib.hid (by unfold triesL; rw [hfit]; rfl)
  clear hF hfit
  gi_wp2_with fail
  refine ⟨trivial, fun h => (by cases h), callsIn_wide.2 (HF.out.mono ?_)⟩
  rintro e w1 ⟨rfl, hb1⟩
  have HB1 := Lib.hid hb1
  clear hb1
  gi_wp2_with fail
  refine bodyPost_ret (results_none rfl _ _ _) rfl ?_
  exact ⟨⟨_, rfl⟩, .inl ⟨_, rfl, by rw [HT.out]; exact abides_below HJ.out HJ0.out HB1.out⟩⟩
 | true =>
  obtain ⟨hmay, hgl, h64⟩ := fits_parts hfit
  obtain ⟨L, hL⟩ : ∃ L, L = colsOf gs secs pg pa size := ⟨_, rfl⟩
  have hL64 : L.length ≤ 64 := by rw [hL]; exact tcolsOf_len hmay
  have hTR : triesL gs secs pg pa size got = if (grAt gs pg).1 == 0 then mirT L size.toNat got (grAt gs pg).2.toNat else parT L got := by unfold triesL; rw [hfit, hL]; rfl
  have hOE : ofErr gs secs pg pa size = 0 ∧ ofList gs secs pg pa size = L := by unfold ofErr ofList; rw [if_pos hmay, if_pos hmay, hL]; exact ⟨rfl, rfl⟩
  obtain ⟨hhas, hz1, hz2, _⟩ := cMay_true hmay
  obtain ⟨k, x, hpk, hk, hl4, hs1, hs2, hx, hgx, ho⟩ := gHas_true hhas
  obtain ⟨sz, hsz⟩ := Int.eq_ofNat_of_zero_le (show 0 ≤ size by omega)
  have hLC : (x.1 = 0 ∧ L.length = x.2.toNat * sz ∧ 1 ≤ x.2.toNat) ∨ (x.1 = 1 ∧ 0 < (L.filter fun c => !c.2.2.1).length) := by
   rcases gOne_true ho with ⟨h1, h2, _⟩ | ⟨h1, _, _⟩
   · refine .inl ⟨h1, ?_, by omega⟩
     rw [hL]; unfold colsOf
     rw [hpk, hgx, h1, if_pos (by decide), mirror, mirTo_len, hsz]
     simp
   · refine .inr ⟨h1, ?_⟩
     rw [hL]; unfold colsOf
     rw [hpk, hgx, h1, if_neg (by decide), tpar_count]
     omega
  rw [hpk, hgx, hsz, Int.toNat_natCast] at hTR
  subst hpk hsz
  rw [hfit] at hF
  rw [← hL] at hgl
  have hm := HG.out.1
  obtain ⟨bg, og, rfl, hgc⟩ := HG.out.2.2 (by omega)
  have hcg := (hgc.2 k x hx).1
  have hkm : k < m := by omega
  have HF := Lib.hid hF
  have HGL := Lib.hid hgl
  have H64 := Lib.hid h64
  have HTR := Lib.hid hTR
  have HOE := Lib.hid hOE
  have HLC := Lib.hid hLC
  have HCG := Lib.hid hcg
  have hsz1 : 1 ≤ sz := by omega
  clear hF hgl h64 hTR hOE hLC hfit hmay hL hhas hx hgx ho hcg hgc hm hl4 hs1 hs2
  gi_wp2_with fail
  refine ⟨trivial, fun h => (by cases h), callsIn_wide.2 (HF.out.mono ?_)⟩
  rintro e w1 ⟨rfl, hb1⟩
  have HO := Lib.hid (of_any (some ⟨bg, og, none⟩) m cc gs secs k pa sz w1 (HG.out.below hb1 (Nat.le_refl _)))
  have HB1 := Lib.hid hb1
  obtain ⟨x0, x1, x2, x3, x4, x5⟩ := HX.out.keep hb1
  clear hb1
  gi_wp2_with fail
  refine ⟨trivial, fun h => (by cases h), callsIn_wide.2 (HO.out.mono ?_)⟩
  rintro e w2 ⟨v, rfl, hown, hb2⟩
  rw [HOE.out.2] at hown
  rw [HOE.out.1]
  have hLp : 0 < L.length := by
   rcases HLC.out with ⟨h1, h2, h3⟩ | ⟨h1, h2⟩
   · rw [h2]; exact Nat.mul_pos h3 hsz1
   · exact Nat.lt_of_lt_of_le h2 (List.length_filter_le _ _)
  obtain ⟨g, cap, rfl, _, _⟩ := hown.form (by omega)
  have hcap := (own_cap hown).1
  have HB2 : Hid (Below W.heap.size W w2) := Lib.hid (HB1.out.trans (hb2.mono HB1.out.size))
  have hSL : SlV w2 V (.slice (some ⟨g, 0, none⟩) L.length cap) L.length (colsCells L) := by
   refine ⟨_, _, rfl, hcap, fun _ => ⟨g, 0, rfl, (hown.lt g rfl).2, fun h => ?_, fun j u hu => ?_⟩⟩
   · have := HV.out _ h
     have := (hown.lt g rfl).1
     have := HB1.out.size
     omega
   · have hj : j < (colsCells L).length := (List.getElem?_eq_some_iff.1 hu).1
     rw [colsCells_len] at hj
     rw [Nat.zero_add]
     exact (hown.cellAt j hj).trans hu
  have hSG := HS.out.kc (kc_below HB2.out)
  have hJ2 : J [] w2 := abides_below HJ.out HJ0.out HB2.out
  have hA2 : AbidesFrom w2.heap.size J := abidesFrom_mono HJ.out HB2.out.size
  have HSL := Lib.hid hSL
  have HSG := Lib.hid hSG
  have HJ2 := Lib.hid (And.intro hJ2 hA2)
  have c6 := keep_cell' HCG.out HB2.out
  obtain ⟨x0, x1, x2, x3, x4, x5⟩ := HX.out.keep HB2.out
  clear hown hb2 hSL hSG hJ2 hA2
  rcases HLC.out with ⟨hk0, hlen, _⟩ | ⟨hk1, hdat⟩
  · rw [hk0] at c6
    have HMI := Lib.hid (mirror_in (n - 1) (L := L) (got := got) (sz := sz) (wd := x.2.toNat) (Pn := fun p => p <+: triesL gs secs k pa sz got) l (V := V) (J := J) (Jx := Jx) HSL.out HSG.out hlen HGL.out hsz1 hL64 H64.out HJ2.out.2
     (fun pre x W1 h1 h2 => yield_any rfl _ (HY.out pre x W1 h1 h2)) (fun p hp => by rw [HTR.out, hk0]; simpa using hp) HJ2.out.1)
    have HT : Hid (triesL gs secs k pa sz got = mirT L sz got x.2.toNat) := Lib.hid (by rw [HTR.out, hk0]; rfl)
    clear hlen hk0
    gi_wp2_with fail
    refine ⟨trivial, fun h => (by cases h), CallsIn.mono HMI.out ?_⟩
    rintro e w3 ⟨⟨v, rfl⟩, hres⟩
    have HRES := Lib.hid hres
    clear hres
    gi_wp2_with fail
    go_end0
    refine ⟨⟨_, rfl⟩, ?_⟩
    rcases HRES.out with ⟨xs, h1, h2⟩ | ⟨pre, h1, h2⟩
    · exact .inl ⟨xs, by rw [HT.out]; exact h1, h2⟩
    · exact .inr ⟨pre, by rw [HT.out]; exact h1, h2⟩
  · rw [hk1] at c6
    have HPA := Lib.hid (parity_in (n - 1) (L := L) (got := got) (Pn := fun p => p <+: triesL gs secs k pa sz got) l (V := V) (J := J) (Jx := Jx) HSL.out HSG.out HGL.out hL64 hdat H64.out (fun b h => Nat.lt_of_lt_of_le (HV.out b h) HB2.out.size) HJ2.out.2
     (fun pre x W1 h1 h2 => yield_any rfl _ (HY.out pre x W1 h1 h2)) (fun p hp => by rw [HTR.out, hk1]; simpa using hp) HJ2.out.1)
    have HT : Hid (triesL gs secs k pa sz got = parT L got) := Lib.hid (by rw [HTR.out, hk1]; rfl)
    clear hdat hk1
    gi_wp2_with fail
    refine ⟨trivial, fun h => (by cases h), CallsIn.mono HPA.out ?_⟩
    rintro e w3 ⟨⟨v, rfl⟩, hres⟩
    have HRES := Lib.hid hres
    clear hres
    gi_wp2_with fail
    go_end0
    refine ⟨⟨_, rfl⟩, ?_⟩
    rcases HRES.out with ⟨xs, h1, h2⟩ | ⟨pre, h1, h2⟩
    · exact .inl ⟨xs, by rw [HT.out]; exact h1, h2⟩
    · exact .inr ⟨pre, by rw [HT.out]; exact h1, h2⟩
theorem tries_any {w : World} (A : Option Addr) (m cc : Nat) (secs pg pa size : Int) (gv : Value) (hgv : ∃ B n c, gv = .slice B n c) :
 Calls Tryz.prog 63 #[.agg #[.slice A m cc, .int .i64 secs], .agg #[.int .i64 pg, .int .i64 pa], .int .i64 size, gv] w fun e w' =>
  e = .returned (.func (.func 87) #[] #[.pointer (some ⟨w.heap.size, 0, none⟩), .pointer (some ⟨w.heap.size + 1, 0, none⟩), .pointer (some ⟨w.heap.size + 1 + 1, 0, none⟩), .pointer (some ⟨w.heap.size + 1 + 1 + 1, 0, none⟩)]) ∧
  TryBx w' w.heap.size (w.heap.size + 1) (w.heap.size + 1 + 1) (w.heap.size + 1 + 1 + 1) A m cc secs pg pa size gv ∧ Below w.heap.size w w' := by
 obtain ⟨B, n, c, rfl⟩ := hgv
 go_enter Tryz.func63, Tryz.ntmps63
 go_wp2_with fail
 go_ret
 refine ⟨rfl, ⟨?_, ?_, ?_, ?_, ?_, ?_⟩, by repeat (first | exact Below.refl _ _ | (with_reducible refine keep_alloc ?_ _))⟩
 all_goals repeat (first | exact cell_new' (by simp) rfl | (with_reducible refine cell_alloc ?_ _))
end Go.Proofs.YtbhkbcpljakmjaaGreat
