/-
  Parities, as plain words. No program stands here.
  Contracts of package par.
  Contracts of package code: sectors.
  Contracts of package geom, second part: Sectors, Devs, First.
  Contracts of package cols: the columns of a block.
-/
import Derived.Test.YtbhkbcpljakmjaaGreatJ01
import Derived.Test.YtbhkbcpljakmjaaGreatJ04
import Derived.Test.YtbhkbcpljakmjaaGreatJ03
namespace Go.Proofs.YtbhkbcpljakmjaaGreat
set_option linter.unusedVariables false
set_option linter.unusedSimpArgs false
def xorL (a b : List UInt8) : List UInt8 := List.zipWith (fun x y => x ^^^ y) a b
def parN (n : Nat) (l : List (List UInt8)) : List UInt8 := l.foldl xorL (List.replicate n 0)
def evenB (l : List (List UInt8)) : Bool := l.all fun s => s.length == (l.headD []).length
def makeS (l : List (List UInt8)) : List UInt8 := if l ≠ [] ∧ evenB l = true then parN (l.headD []).length l else []
def makeE (l : List (List UInt8)) : Int := if l ≠ [] ∧ evenB l = true then 0 else 1
theorem xorL_len {a b : List UInt8} (h : a.length = b.length) : (xorL a b).length = a.length := by unfold xorL; rw [List.length_zipWith]; omega
theorem parN_snoc (n : Nat) (l : List (List UInt8)) (s : List UInt8) : parN n (l ++ [s]) = xorL (parN n l) s := by simp [parN]
theorem fold_len (n : Nat) : ∀ (l : List (List UInt8)) (a : List UInt8), a.length = n → (∀ s ∈ l, s.length = n) → (l.foldl xorL a).length = n
 | [], a, ha, _ => ha
 | s :: l, a, ha, h => by
   rw [List.foldl_cons]
   exact fold_len n l _ (by rw [xorL_len (by rw [ha, h s List.mem_cons_self])]; exact ha) (fun x hx => h x (List.mem_cons_of_mem _ hx))
theorem parN_len {n : Nat} {l : List (List UInt8)} (h : ∀ s ∈ l, s.length = n) : (parN n l).length = n := fold_len n l _ (by simp) h
theorem evenB_spec {l : List (List UInt8)} (h : evenB l = true) : ∀ s ∈ l, s.length = (l.headD []).length := fun s hs => by
 have := List.all_eq_true.1 h s hs
 simpa using this
def xorTo (a b : List UInt8) (k : Nat) : List UInt8 := (xorL (a.take k) (b.take k)) ++ a.drop k
theorem xorTo_zero (a b : List UInt8) : xorTo a b 0 = a := by simp [xorTo, xorL]
theorem xorTo_all {a b : List UInt8} (h : a.length = b.length) : xorTo a b a.length = xorL a b := by
 unfold xorTo
 rw [List.take_length, h, List.take_length, ← h, List.drop_length, List.append_nil]
theorem xorTo_get {a b : List UInt8} {k : Nat} {x : UInt8} (hx : a[k]? = some x) (h : a.length = b.length) : (xorTo a b k)[k]? = some x := by
 have hk := (List.getElem?_eq_some_iff.1 hx).1
 have hl : (xorL (a.take k) (b.take k)).length = k := by unfold xorL; rw [List.length_zipWith, List.length_take, List.length_take]; omega
 unfold xorTo
 rw [List.getElem?_append_right (by omega), hl, Nat.sub_self, List.getElem?_drop, Nat.add_zero]
 exact hx
theorem xorTo_set {a b : List UInt8} {k : Nat} {x y : UInt8} (hx : a[k]? = some x) (hy : b[k]? = some y) (h : a.length = b.length) : (xorTo a b k).set k (x ^^^ y) = xorTo a b (k + 1) := by
 have hk := (List.getElem?_eq_some_iff.1 hx).1
 have hl : (xorL (a.take k) (b.take k)).length = k := by unfold xorL; rw [List.length_zipWith, List.length_take, List.length_take]; omega
 have e1 : a.drop k = x :: a.drop (k + 1) := by
  rw [List.drop_eq_getElem_cons hk]
  rw [List.getElem?_eq_getElem hk] at hx
  rw [Option.some.inj hx]
 have e2 : xorL (a.take (k + 1)) (b.take (k + 1)) = xorL (a.take k) (b.take k) ++ [x ^^^ y] := by
  rw [List.take_add_one, List.take_add_one, hx, hy]
  unfold xorL
  rw [List.zipWith_append (by rw [List.length_take, List.length_take]; omega)]
  rfl
 unfold xorTo
 rw [List.set_append_right _ _ (by omega), hl, Nat.sub_self, e1, List.set_cons_zero, e2, List.append_assoc]
 rfl
def secN (s : List UInt8) : Nat := s.length / 64
def secAt (s : List UInt8) (i : Nat) : List UInt8 := (s.drop (i * 64)).take 64
def secsL (s : List UInt8) : List (List UInt8) := (List.range (secN s)).map (secAt s)
def secOk (s : List UInt8) : Bool := decide (s ≠ []) && (decide (s.length % 64 = 0) && decide (s.length ≤ 256))
theorem secsL_len (s : List UInt8) : (secsL s).length = secN s := by simp [secsL]
theorem secAt_len {s : List UInt8} {i : Nat} (h : i < secN s) : (secAt s i).length = 64 := by
 unfold secN at h
 unfold secAt
 rw [List.length_take, List.length_drop]
 omega
theorem secsL_at {s : List UInt8} {i : Nat} (h : i < secN s) : (secsL s)[i]? = some (secAt s i) := by simp [secsL, h]
end Go.Proofs.YtbhkbcpljakmjaaGreat

namespace Go.Proofs.YtbhkbcpljakmjaaGreat
set_option linter.unusedVariables false
set_option linter.unusedSimpArgs false
open Go.RowKit
theorem parEven1_any {w : World} {g b o n c : Nat} {x0 : List UInt8} (hg : w.cell? ⟨g, 0, none⟩ = some (.slice (some ⟨b, o, none⟩) n c)) (h0 : w.cell? ⟨b, o, none⟩ = some (str x0)) (hn : 0 < n) (s : List UInt8) :
 Calls Tryz.prog 139 #[str s, .pointer (some ⟨g, 0, none⟩)] w fun e w' => e = .returned (.bool (!(s.length == x0.length))) ∧ Below w.heap.size w w' := by
 have hnn : (0 : Int) < n := by omega
 cases hb : (s.length == x0.length) with
 | true =>
  have hi : ((s.length : Int) != (x0.length : Int)) = false := by have := eq_of_beq hb; rw [this]; simp
  go_enter Tryz.func139, Tryz.ntmps139
  go_wp2_with fail
  go_ret
  exact ⟨rfl, Below.refl _ _⟩
 | false =>
  have hi : ((s.length : Int) != (x0.length : Int)) = true := by have := ne_of_beq_false hb; rw [bne_iff_ne]; omega
  go_enter Tryz.func139, Tryz.ntmps139
  go_wp2_with fail
  go_ret
  exact ⟨rfl, Below.refl _ _⟩
theorem below_drew {B : Nat} {w w' : World} (h : Below B w w') : Below B w w'.drew := ⟨h.os, h.tape, h.output, h.size, h.block⟩
theorem goesEven : ∀ (args : Array Value) (w : World), (callFunc 139 args).run Tryz.prog w = .ok (.enter 139 args) w := enters_of Tryz.func139 (by kernel_rfl) (by kernel_rfl)
theorem any_even (l : List (List UInt8)) (n : Nat) : (l.any fun s => !(s.length == n)) = !l.all fun s => s.length == n := by
 induction l with
 | nil => rfl
 | cons x l ih => rw [List.any_cons, List.all_cons, ih, Bool.not_and]
theorem parEven_any {l : List (List UInt8)} {sv : Value} {w : World} (h : SlAt w sv l.length (strC l)) (f1 : l.length ≤ 1000000) :
 Calls Tryz.prog 112 #[sv] w fun e w' => e = .returned (.bool (evenB l)) ∧ Below w.heap.size w w' := by
 obtain ⟨w1, hw1⟩ : ∃ x, w.alloc (.cells #[sv] 60) = x := ⟨_, rfl⟩
 have B1 : Blk w1 w.heap.size 60 #[sv] := by rw [← hw1]; exact Blk.new _ _ _
 have D1 : Below w.heap.size w w1 := by rw [← hw1]; exact keep_alloc (Below.refl _ _) _
 have h1 := h.below D1
 have HC := Lib.hid (conStr_any 139 #[.pointer (some ⟨w.heap.size, 0, none⟩)] (fun s => !(s.length == (l.headD []).length)) h1 f1 goesEven (fun s W hs hW => by
  obtain ⟨A, c, rfl⟩ := h1.form
  have hp : 0 < l.length := List.length_pos_of_mem hs
  obtain ⟨b, o, rfl, hbl, hcell⟩ := h1.cells hp
  obtain ⟨x0, hx0⟩ : ∃ x, l[0]? = some x := ⟨_, List.getElem?_eq_getElem hp⟩
  have hh : l.headD [] = x0 := by cases l with
   | nil => cases hx0
   | cons y r => simp at hx0; simp [hx0]
  rw [hh]
  have c0 : W.cell? ⟨b, o, none⟩ = some (str x0) := (World.cell?_of_block (hW.block b hbl)).trans (hcell 0 _ (strC_at hx0))
  exact parEven1_any ((B1.below hW B1.lt).at_ rfl) c0 hp s))
 have c0 : w1.cell? ⟨w.heap.size, 0, none⟩ = some sv := B1.at_ rfl
 have HD := Lib.hid D1
 have HW := Lib.hid hw1
 obtain ⟨A, c, rfl⟩ := h.form
 rw [any_even] at HC
 have HE : Hid (evenB l = l.all fun s => s.length == (l.headD []).length) := Lib.hid rfl
 clear h h1 D1 B1 hw1
 generalize (l.all fun s => s.length == (l.headD []).length) = r at *
 go_enter Tryz.func112, Tryz.ntmps112
 go_wp2_with fail
 rw [HW.out]
 clear HW
 go_wp2_with fail
 refine HC.out.mono ?_
 rintro e w2 ⟨rfl, hb2⟩
 have HD2 := Lib.hid (keep_below hb2 HD.out)
 clear hb2
 cases r with
 | true =>
  go_wp2_with fail
  go_ret
  exact ⟨by rw [HE.out]; rfl, HD2.out⟩
 | false =>
  go_wp2_with fail
  go_ret
  exact ⟨by rw [HE.out]; rfl, HD2.out⟩
set_option maxRecDepth 20000 in
theorem parOne_any {l : List (List UInt8)} {sv : Value} {w : World} (h : SlAt w sv l.length (strC l)) (hne : l ≠ []) (he : evenB l = true) (hn : (l.headD []).length ≤ 16384) (f1 : l.length ≤ 1000000) :
 Calls Tryz.prog 113 #[sv] w fun e w' => e = .returned (str (parN (l.headD []).length l)) ∧ Below w.heap.size w w' := by
 have hp : 0 < l.length := List.length_pos_iff.2 hne
 obtain ⟨A, c, rfl⟩ := h.form
 obtain ⟨b, o, rfl, hbl, hcell⟩ := h.cells hp
 obtain ⟨x0, hx0⟩ : ∃ x, l[0]? = some x := ⟨_, List.getElem?_eq_getElem hp⟩
 have hh : l.headD [] = x0 := by cases l with
  | nil => cases hx0
  | cons y r => simp at hx0; simp [hx0]
 have hal := evenB_spec he
 rw [hh] at hal hn ⊢
 have c0 : w.cell? ⟨b, o, none⟩ = some (str x0) := hcell 0 _ (strC_at hx0)
 obtain ⟨N, hN⟩ : ∃ n, n = x0.length := ⟨_, rfl⟩
 obtain ⟨w1, r1, hb1, hs1, hbel1⟩ := mk_bytes w x0.length hn
 have hpi : (0 : Int) < l.length := by omega
 have HB1 : Hid (Blk w1 w.heap.size 5 (bytC (parN x0.length (l.take 0))).toArray) := Lib.hid hb1
 have HBEL := Lib.hid hbel1
 have HCELL := Lib.hid hcell
 have HAL := Lib.hid hal
 have HBL := Lib.hid hbl
 clear h hcell hal hbl hb1 hbel1 hh hx0 hs1 he hN
 go_enter Tryz.func113, Tryz.ntmps113
 go_wp2_with fail
 clear r1 c0
 go_loopw [5, 6, 14] (fun _ _ t wr => ∃ k : Nat, k ≤ l.length ∧ t = .int .i64 k ∧ Below w.heap.size w wr ∧ Blk wr w.heap.size 5 (bytC (parN x0.length (l.take k))).toArray) (fun _ _ t _ => l.length - (RowKit.intOf t).toNat)
 case atStart => exact ⟨0, Nat.zero_le _, rfl, HBEL.out, HB1.out⟩
 case round =>
  obtain ⟨k, hk, rfl, hb, hblk⟩ := hrel
  have HB := Lib.hid hb
  have HK := Lib.hid hblk
  clear hb hblk HB1 HBEL
  by_cases hlt : k < l.length
  · obtain ⟨s, hs⟩ : ∃ s, l[k]? = some s := ⟨_, List.getElem?_eq_getElem hlt⟩
    have f0 : wr.cell? ⟨b, o + k, none⟩ = some (str s) := (World.cell?_of_block (HB.out.block b HBL.out)).trans (HCELL.out k _ (strC_at hs))
    have hdc : decide (k < l.length) = true := decide_eq_true hlt
    have HLT := Lib.hid hlt
    have hsl : s.length = x0.length := HAL.out s (List.mem_of_getElem? hs)
    obtain ⟨a, ha⟩ : ∃ a, a = parN x0.length (l.take k) := ⟨_, rfl⟩
    have hal : a.length = x0.length := by rw [ha]; exact parN_len fun y hy => HAL.out y (List.mem_of_mem_take hy)
    have HTK : Hid (parN x0.length (l.take (k + 1)) = xorL a s) := Lib.hid (by rw [List.take_add_one, hs, ha]; exact parN_snoc _ _ _)
    rw [← ha] at HK
    have HSL := Lib.hid (And.intro hsl hal)
    clear hs hsl ha hal
    go_wp2_with fail
    have hx0 : xorTo a s 0 = a := xorTo_zero a s
    go_loopw [6, 20] (fun _ t wq => ∃ j : Nat, j ≤ x0.length ∧ t = .int .i64 j ∧ Below w.heap.size w wq ∧ Blk wq w.heap.size 5 (bytC (xorTo a s j)).toArray) (fun _ t _ => x0.length - (RowKit.intOf t).toNat)
    case atStart => exact ⟨0, Nat.zero_le _, rfl, HB.out, by rw [hx0]; exact HK.out⟩
    case round =>
     clear hx0 f0 HB HK
     obtain ⟨j, hj, rfl, hb, hblk⟩ := hrel
     have HB := Lib.hid hb
     have HK := Lib.hid hblk
     clear hb hblk
     by_cases hjt : j < x0.length
     · obtain ⟨x, hx⟩ : ∃ x, a[j]? = some x := ⟨_, List.getElem?_eq_getElem (by have := HSL.out; omega)⟩
       obtain ⟨y, hy⟩ : ∃ y, s[j]? = some y := ⟨_, List.getElem?_eq_getElem (by have := HSL.out; omega)⟩
       have hdj : decide (j < x0.length) = true := decide_eq_true hjt
       have hlen : a.length = s.length := by have := HSL.out; omega
       have HJT := Lib.hid hjt
       have HST : Hid ((xorTo a s j).set j (x ^^^ y) = xorTo a s (j + 1)) := Lib.hid (xorTo_set hx hy hlen)
       have hxc := xorTo_get hx hlen
       have hjs : j < s.length := by have := HSL.out; omega
       clear hx hlen
       repeat' (first
        | go_values
        | go_skip
        | go_guarded
        | ((fail_if_success (with_reducible refine drawn_mark ?_))
           first
            | go_step
            | go_upon
            | go_back
            | (simp only [Int.not_lt, Int.not_le] at *; go_simp)
            | (go_values <;> (try go_simp))
            | (go_ite <;> go_prune <;> (try go_simp))
            | (split <;> (first | (rename_i hx; exact (hx _ rfl).elim) | go_prune))))
       obtain ⟨S0, hS0⟩ : ∃ S0 : World → Prop, S0 = fun W => Blk W w.heap.size 5 (bytC (xorTo a s j)).toArray := ⟨_, rfl⟩
       have f1 : ∀ W, S0 W → W.cell? ⟨w.heap.size, j, none⟩ = some (.int .u8 (x.toNat : Int)) := fun W hW => by rw [hS0] at hW; exact hW.at_ (bytC_at hxc)
       have hSw : S0 wr.drew := by rw [hS0]; exact HK.out
       have hxr := xor_cell x y
       clear hS0 hxc
       refine wp_region_eff S0 [] 9 (by kernel_rfl) (by kernel_rfl) (by kernel_rfl) hSw ?_
       simp only [List.take_succ_cons, List.take_zero, List.drop_succ_cons, List.drop_zero]
       refine wpLexE_take 9 (by kernel_rfl) (by kernel_rfl) ?_
       simp only [List.take_succ_cons, List.take_zero, List.drop_succ_cons, List.drop_zero]
       repeat (first | go_big_quiet_skip | (go_big_quiet_want; go_big_quiet_op; first | go_big_quiet_on | (apply Exists.intro; refine ⟨fun W hW => ?_, ?_⟩; (focus ((first | exact rfl | exact ⟨rfl, rfl⟩ | (simp only [f1 W hW, Result.andThen_ok]; first | done | exact ⟨trivial, rfl⟩ | exact rfl | exact ⟨rfl, rfl⟩) | (skip)); done)); go_big_quiet_on)))
       refine wpQuiet_nil ?_
       show wpList _ _ _ _ _ _
       have c1 := f1 wr.drew hSw
       have z1 : wr.drew.frozen? ⟨w.heap.size, j, none⟩ = false := (show Blk wr.drew _ _ _ from HK.out).fr j
       clear f1 hSw
       have hyb : j < (ByteArray.mk s.toArray).size := by simp [ByteArray.size]; exact hjs
       have hidx : (ByteArray.mk s.toArray)[j]'hyb = y := by
        have e : s[j]'hjs = y := by rw [List.getElem?_eq_getElem hjs] at hy; exact Option.some.inj hy
        rw [← e]; rfl
       have HIDX := Lib.hid hidx
       have HXR := Lib.hid hxr
       clear hidx hxr hy
       go_wp2_with fail
       rw [HIDX.out, HXR.out]
       obtain ⟨wy, hwy⟩ : ∃ z, z = (wr.setCell ⟨w.heap.size, j, none⟩ (.int .u8 ((x ^^^ y).toNat : Int))).drew := ⟨_, rfl⟩
       have hKy : Blk wy w.heap.size 5 (bytC (xorTo a s (j + 1))).toArray := by rw [hwy, ← HST.out, ← bytC_set]; exact HK.out.put j _
       have hBy : Below w.heap.size w wy := by rw [hwy]; exact below_drew (below_set HB.out _ _ _ (Nat.le_refl _))
       rw [← hwy]
       go_roundw
       case rel => exact ⟨j + 1, HJT.out, by go_num, hBy, hKy⟩
       case measure => have := HJT.out; simp [RowKit.intOf]; omega
     · obtain rfl : j = x0.length := by omega
       have hdj : decide ((x0.length : Int) < x0.length) = false := decide_eq_false (by omega)
       have hxx : xorTo a s x0.length = xorL a s := by rw [← HSL.out.2]; exact xorTo_all (by have := HSL.out; omega)
       rw [hxx] at HK
       clear hxx
       go_wp2_with fail
       go_roundw
       case rel => exact ⟨k + 1, HLT.out, by go_num, HB.out, by rw [HTK.out]; exact HK.out⟩
       case measure => have := HLT.out; simp [RowKit.intOf]; omega
  · obtain rfl : k = l.length := by omega
    have hdc : decide ((l.length : Int) < l.length) = false := decide_eq_false (by omega)
    have hcv := conv_bytes HK.out x0.length x0.length (parN_len fun y hy => HAL.out y (List.mem_of_mem_take hy)).symm
    rw [List.take_length] at hcv
    go_wp2_with fail
    go_ret
    exact ⟨rfl, HB.out⟩
theorem parMake_any {l : List (List UInt8)} {sv : Value} {w : World} (h : SlAt w sv l.length (strC l)) (hn : (l.headD []).length ≤ 16384) (f1 : l.length ≤ 1000000) :
 Calls Tryz.prog 83 #[sv] w fun e w' => e = .returned (.tuple #[str (makeS l), .int .i64 (makeE l)]) ∧ Below w.heap.size w w' := by
 obtain ⟨A, c, rfl⟩ := h.form
 have H := Lib.hid h
 have HEV := Lib.hid (parEven_any h f1)
 clear h
 by_cases h0 : l.length = 0
 · have hl : l = [] := List.length_eq_zero_iff.1 h0
   have hz : ((l.length : Int) == 0) = true := by rw [h0]; rfl
   have hv : Hid (makeS l = [] ∧ makeE l = 1) := Lib.hid (by rw [hl]; exact ⟨rfl, rfl⟩)
   clear h0 hl
   go_enter Tryz.func83, Tryz.ntmps83
   go_wp2_with fail
   go_ret2
   rw [hv.out.1, hv.out.2]
   exact ⟨rfl, Below.refl _ _⟩
 · have hz : ((l.length : Int) == 0) = false := by rw [beq_eq_false_iff_ne]; omega
   have hne : l ≠ [] := fun hh => h0 (by rw [hh]; rfl)
   have HNE := Lib.hid hne
   clear h0 hne
   go_enter Tryz.func83, Tryz.ntmps83
   go_wp2_with fail
   refine HEV.out.mono ?_
   rintro e w1 ⟨rfl, hb1⟩
   have HB1 := Lib.hid hb1
   clear hb1
   cases he : evenB l with
   | false =>
    have hv : Hid (makeS l = [] ∧ makeE l = 1) := Lib.hid (by unfold makeS makeE; rw [he]; simp)
    clear he
    go_wp2_with fail
    go_ret2
    rw [hv.out.1, hv.out.2]
    exact ⟨rfl, HB1.out⟩
   | true =>
    have hv : Hid (makeS l = parN (l.headD []).length l ∧ makeE l = 0) := Lib.hid (by
     unfold makeS makeE
     rw [if_pos ⟨HNE.out, he⟩, if_pos ⟨HNE.out, he⟩]
     exact ⟨rfl, rfl⟩)
    have HO := Lib.hid (parOne_any (H.out.below HB1.out) HNE.out he hn f1)
    clear he hn
    generalize parN (l.headD []).length l = Y at *
    go_wp2_with fail
    refine HO.out.mono ?_
    rintro e w2 ⟨rfl, hb2⟩
    have HB2 := Lib.hid (keep_below hb2 HB1.out)
    clear hb2
    go_wp2_with fail
    go_ret2
    rw [hv.out.1, hv.out.2]
    exact ⟨rfl, HB2.out⟩
end Go.Proofs.YtbhkbcpljakmjaaGreat

namespace Go.Proofs.YtbhkbcpljakmjaaGreat
set_option linter.unusedVariables false
set_option linter.unusedSimpArgs false
open Go.RowKit
theorem Tryz.infoStr : (Tryz.prog.info? 9).map (fun i => (i.zero, i.size, i.bytes)) = some (some (.string ⟨#[]⟩), 1, 16) := by kernel_rfl
theorem Tryz.infoIntR : (Tryz.prog.info? 3).map (fun i => (i.zero, i.size, i.bytes)) = some (some (.int .i64 0), 1, 8) := by kernel_rfl
theorem one_new' (w : World) (u : Value) (t : TypeId) : ∀ j v, [u][j]? = some v → (w.alloc (.cells #[u] t)).cell? ((⟨w.heap.size, 0, none⟩ : Addr).add j) = some v := by
 intro j v h
 rw [Addr.add_mid, Nat.zero_add]
 refine cell_new rfl ?_
 simpa using h
set_option maxRecDepth 20000 in
theorem codeSectors_any (s : List UInt8) (w : World) (hl : s.length ≤ 140737488355328) : Calls Tryz.prog 81 #[str s] w fun e w' =>
 ∃ v, e = .returned (.tuple #[v, .bool (secOk s)]) ∧ (secOk s = true → w'.ownsRow w.heap.size 9 1 v (secN s) (strC (secsL s))) ∧ Below w.heap.size w w' := by
 obtain ⟨i0, hi, hz0, hz1, hz2⟩ := info_parts Tryz.infoStr
 by_cases h1 : s = []
 · have hv : Hid (secOk s = false) := Lib.hid (by rw [h1]; rfl)
   have hb : (s == []) = true := by rw [h1]; rfl
   clear h1
   go_enter Tryz.func81, Tryz.ntmps81
   go_wp2_with fail
   go_ret2
   exact ⟨_, by rw [hv.out]; rfl, fun h => (by rw [hv.out] at h; cases h), Below.refl _ _⟩
 have hb : (s == []) = false := beq_eq_false_iff_ne.2 h1
 by_cases h2 : s.length % 64 ≠ 0
 · have hv : Hid (secOk s = false) := Lib.hid (by unfold secOk; rw [decide_eq_false h2]; simp)
   have hb2 : (((s.length : Int) % 64) != 0) = true := by rw [bne_iff_ne]; omega
   clear h1 h2
   go_enter Tryz.func81, Tryz.ntmps81
   go_wp2_with fail
   go_ret2
   exact ⟨_, by rw [hv.out]; rfl, fun h => (by rw [hv.out] at h; cases h), Below.refl _ _⟩
 replace h2 : s.length % 64 = 0 := by omega
 have hb2 : (((s.length : Int) % 64) != 0) = false := by rw [bne_eq_false_iff_eq]; omega
 by_cases h3 : 256 < s.length
 · have hv : Hid (secOk s = false) := Lib.hid (by unfold secOk; rw [decide_eq_false (by omega : ¬ s.length ≤ 256)]; simp)
   have hb3 : decide ((256 : Int) < s.length) = true := decide_eq_true (by omega)
   clear h1 h2 h3
   go_enter Tryz.func81, Tryz.ntmps81
   go_wp2_with fail
   go_ret2
   exact ⟨_, by rw [hv.out]; rfl, fun h => (by rw [hv.out] at h; cases h), Below.refl _ _⟩
 have hb3 : decide ((256 : Int) < s.length) = false := decide_eq_false (by omega)
 have hv : Hid (secOk s = true) := Lib.hid (by unfold secOk; rw [decide_eq_true h1, decide_eq_true h2, decide_eq_true (by omega : s.length ≤ 256)]; rfl)
 obtain ⟨n, hn⟩ : ∃ n, n = secN s := ⟨_, rfl⟩
 have hnl : s.length = n * 64 := by rw [hn]; unfold secN; omega
 have HN := Lib.hid (And.intro hn hnl)
 have hn4 : n ≤ 4 := by omega
 clear h1 h2 h3 hn hl hnl
 go_enter Tryz.func81, Tryz.ntmps81
 go_wp2_with fail
 go_loopw [4, 5] (fun v t wr => ∃ k : Nat, k ≤ n ∧ t = .int .i64 ((k : Int) * 64) ∧ wr.ownsRow w.heap.size 9 1 v k (strC ((secsL s).take k)) ∧ Below w.heap.size w wr) (fun _ t _ => n * 64 - (RowKit.intOf t).toNat)
 case atStart => exact ⟨0, Nat.zero_le _, rfl, World.ownsRow_nil _ _ _ _, Below.refl _ _⟩
 case round =>
  obtain ⟨k, hk, rfl, hown, hb⟩ := hrel
  by_cases hlt : k < n
  · have hdc : decide ((k : Int) * 64 < s.length) = true := decide_eq_true (by have := HN.out.2; omega)
    have hsl : ∀ W, (Instr.slice 9 (str s) (some (.int .i64 ((k : Int) * 64))) (some (.int .i64 ((k : Int) * 64 + 64))) none).run Tryz.prog W = .ok (str (secAt s k)) W := fun W => by
     have h5 := HN.out.2
     have := run_slice_string (P := Tryz.prog) W 9 (ByteArray.mk s.toArray) .i64 .i64 ((k : Int) * 64) ((k : Int) * 64 + 64) Tryz.underlying9 (by omega) (by omega) (by simp [ByteArray.size]; omega)
     rw [this]
     have e1 : ((k : Int) * 64).toNat = k * 64 := by omega
     have e2 : ((k : Int) * 64 + 64).toNat = k * 64 + 64 := by omega
     have e3 : (ByteArray.mk s.toArray).extract (k * 64) (k * 64 + 64) = ⟨(secAt s k).toArray⟩ := by
      apply ByteArray.ext
      have h6 : (k * 64 + 64) - k * 64 = 64 := by omega
      simp only [secAt, ByteArray.data_extract, List.extract_toArray, List.extract_eq_take_drop, h6]
     rw [e1, e2, e3]
    have hx : (secsL s)[k]? = some (secAt s k) := secsL_at (by have := HN.out.1; omega)
    have hown := Lib.hid hown
    have HB := Lib.hid hb
    have HX := Lib.hid hx
    clear hb hx
    go_wp2_with (at_builtin; refine wpList_append_own _ rfl _ _ 60 rfl w.heap.size 9 i0 _ 1 16 Tryz.underlying60 hi hz0 hz1 hz2 rfl (by decide) _ _ _ rfl (hown.out.alloc _) ⟨wr.heap.size, 0, none⟩ 1 1 [str (secAt s k)] rfl rfl ?c1 ?c2 (by unfold maxLen; omega) (by omega) ?c5 ?_)
    case c1 => exact one_new' _ _ _
    case c2 => intro u hu; simp at hu; subst hu; rfl
    case c5 => have := HB.out.size; simp; omega
    intro v' w3 hown' hgrow _
    have hown3 : w3.ownsRow w.heap.size 9 1 v' (k + 1) (strC ((secsL s).take (k + 1))) := by
     rw [List.take_add_one, HX.out]
     show w3.ownsRow _ _ _ _ _ (strC ((secsL s).take k ++ [secAt s k]))
     rw [strC_snoc]
     exact hown'
    have hb3 : Below w.heap.size w w3 := (HB.out.alloc HB.out.size _).grown hgrow (by have := HB.out.size; simp; omega) (fun k hk => (hown.out.lt k hk).1)
    have HO3 := Lib.hid hown3
    have HB3 := Lib.hid hb3
    clear hown' hgrow hown3 hb3 hsl
    go_wp2_with fail
    go_roundw
    case rel => exact ⟨k + 1, by omega, by go_num, HO3.out, HB3.out⟩
    case measure => simp [RowKit.intOf]; omega
  · obtain rfl : k = n := by omega
    have hdc : decide ((k : Int) * 64 < s.length) = false := decide_eq_false (by have := HN.out.2; omega)
    go_wp2_with fail
    go_ret2
    refine ⟨_, by rw [hv.out]; rfl, fun _ => ?_, hb⟩
    have h5 : (secsL s).take k = secsL s := List.take_of_length_le (by rw [secsL_len, ← HN.out.1]; exact Nat.le_refl _)
    rw [h5, HN.out.1] at hown
    exact hown
end Go.Proofs.YtbhkbcpljakmjaaGreat

namespace Go.Proofs.YtbhkbcpljakmjaaGreat
open Go.RowKit
set_option linter.unusedVariables false
def gSectors (gs : List (Int × Int)) (secs g : Int) : Int := if gHas gs secs g then (if (grAt gs g).1 == 1 then (secs - 16) * (grAt gs g).2 else secs - 16) else 0
def gSum (gs : List (Int × Int)) : Int := (gs.map (·.2)).sum
def gDevs (gs : List (Int × Int)) (secs : Int) : Int := if gRight gs secs then gSum gs else 0
def gFirst (gs : List (Int × Int)) (secs g : Int) : Int := if gHas gs secs g then gSum (gs.take g.toNat) else 0
theorem mul_bd {a b : Int} (h1 : 0 ≤ a) (h2 : a ≤ 4096) (h3 : 1 ≤ b) (h4 : b ≤ 8) : 0 ≤ a * b ∧ a * b ≤ 32768 := by
 have : b = 1 ∨ b = 2 ∨ b = 3 ∨ b = 4 ∨ b = 5 ∨ b = 6 ∨ b = 7 ∨ b = 8 := by omega
 rcases this with rfl | rfl | rfl | rfl | rfl | rfl | rfl | rfl <;> omega
theorem sectors_any (A : Option Addr) (n c : Nat) (gs : List (Int × Int)) (secs g : Int) (w : World) (hg : GeoAt w A n gs) :
 Calls Tryz.prog 103 #[.agg #[.slice A n c, .int .i64 secs], .int .i64 g] w fun e w' => e = .returned (.int .i64 (gSectors gs secs g)) ∧ Below w.heap.size w w' := by
 have hb0 : Below w.heap.size w (w.alloc (Obj.cells #[Value.slice A n c, Value.int IntKind.i64 secs] 24)) := (Below.refl _ _).alloc (Nat.le_refl _) _
 have H := Lib.hid (has_any A n c gs secs g (w.alloc (Obj.cells #[Value.slice A n c, Value.int IntKind.i64 secs] 24)) (hg.below hb0 (Nat.le_refl _)))
 by_cases hh : gHas gs secs g = true
 · obtain ⟨k, x, rfl, hk, hl4, hs1, hs2, hx, hgx, ho⟩ := gHas_true hh
   have ho' := gOne_true ho
   obtain ⟨b, off, rfl, hgs⟩ := hg.2.2 (by have := hg.1; omega)
   have hl := hg.1
   have hkn : (k : Int) < n := by omega
   have HX := Lib.hid hx
   have HH := Lib.hid hh
   have ht : Hid (gSectors gs secs k = if x.1 == 1 then (secs - 16) * x.2 else secs - 16) := by unfold Hid gSectors; rw [hh, hgx]; rfl
   clear hx hgx hh hl hg
   obtain ⟨kd, wd⟩ := x
   have hm := mul_bd (a := secs - 16) (b := wd) (by omega) (by omega)
   rcases ho' with ⟨e, hw1, hw2⟩ | ⟨e, hw1, hw2⟩
   all_goals
    simp only at e hw1 hw2
    subst e
    have hm1 := (hm (by omega) hw2).1
    have hm2 := (hm (by omega) hw2).2
    clear hm
    go_enter Tryz.func103, Tryz.ntmps103
    go_wp2_with fail
    refine H.out.mono ?_
    rintro e w1 ⟨rfl, hb1⟩
    have hb2 := hb0.trans (hb1.mono (by simp))
    obtain ⟨hc1, hc2⟩ := (hgs.below hb2 (Nat.le_refl _)).2 k _ HX.out
    obtain ⟨hc, hf⟩ := bcell hb1
    have hh := HH.out
    have hsz := hb1.size
    simp at hsz
    go_wp2
    go_ret
    refine ⟨ret_int ?_, hb2.alloc (by omega) _⟩
    rw [ht.out]
    simp
 · have hh' : gHas gs secs g = false := by simpa using hh
   have ht : Hid (gSectors gs secs g = 0) := by unfold Hid gSectors; rw [hh']; rfl
   clear hg hh
   have HH := Lib.hid hh'
   clear hh'
   go_enter Tryz.func103, Tryz.ntmps103
   go_wp2_with fail
   refine H.out.mono ?_
   rintro e w1 ⟨rfl, hb1⟩
   have hb2 := hb0.trans (hb1.mono (by simp))
   obtain ⟨hc, hf⟩ := bcell hb1
   have hh := HH.out
   go_wp2
   go_ret
   exact ⟨ret_int ht.out.symm, hb2⟩
theorem gSum_take {gs : List (Int × Int)} {k : Nat} {x : Int × Int} (hx : gs[k]? = some x) : gSum (gs.take (k + 1)) = gSum (gs.take k) + x.2 := by
 obtain ⟨hk, e⟩ := List.getElem?_eq_some_iff.1 hx
 rw [List.take_succ_eq_append_getElem hk, e]
 simp [gSum, List.sum_append]
theorem gSum_bd {gs : List (Int × Int)} (h : ∀ x ∈ gs, 0 ≤ x.2 ∧ x.2 ≤ 8) : 0 ≤ gSum gs ∧ gSum gs ≤ 8 * gs.length := by
 induction gs with
 | nil => simp [gSum]
 | cons x gs ih =>
  have h1 := h x (by simp)
  have h2 := ih fun y hy => h y (by simp [hy])
  simp only [gSum, List.map_cons, List.sum_cons, List.length_cons] at h2 ⊢
  omega
theorem gRight_parts {gs : List (Int × Int)} {secs : Int} (h : gRight gs secs = true) : 1 ≤ gs.length ∧ gs.length ≤ 4 ∧ 24 ≤ secs ∧ secs ≤ 4096 ∧ ∀ x ∈ gs, gOne x = true := by
 simp only [gRight, Bool.and_eq_true, decide_eq_true_eq, List.all_eq_true] at h
 exact ⟨h.1.1.1.1, h.1.1.1.2, h.1.1.2, h.1.2, h.2⟩
theorem sum_take_bd {gs : List (Int × Int)} {secs : Int} (h : gRight gs secs = true) (k : Nat) : 0 ≤ gSum (gs.take k) ∧ gSum (gs.take k) ≤ 32 := by
 obtain ⟨_, h2, _, _, h5⟩ := gRight_parts h
 have := gSum_bd (gs := gs.take k) fun x hx => by have := gOne_true (h5 x (List.mem_of_mem_take hx)); omega
 have hl := List.length_take_le k gs
 have hl2 : (gs.take k).length ≤ gs.length := by rw [List.length_take]; omega
 omega
theorem devs_any (A : Option Addr) (n c : Nat) (gs : List (Int × Int)) (secs : Int) (w : World) (hg : GeoAt w A n gs) :
 Calls Tryz.prog 55 #[.agg #[.slice A n c, .int .i64 secs]] w fun e w' => e = .returned (.int .i64 (gDevs gs secs)) ∧ Below w.heap.size w w' := by
 have hb0 : Below w.heap.size w (w.alloc (Obj.cells #[Value.slice A n c, Value.int IntKind.i64 secs] 24)) := (Below.refl _ _).alloc (Nat.le_refl _) _
 have H := Lib.hid (right_any A n c gs secs (w.alloc (Obj.cells #[Value.slice A n c, Value.int IntKind.i64 secs] 24)) (hg.below hb0 (Nat.le_refl _)))
 by_cases hh : gRight gs secs = true
 · obtain ⟨hl1, hl4, hs1, hs2, hone⟩ := gRight_parts hh
   obtain ⟨b, off, rfl, hgs⟩ := hg.2.2 (by have := hg.1; omega)
   have hl := Lib.hid hg.1
   have hn2 := hg.2.1
   have ht : Hid (gDevs gs secs = gSum gs) := by unfold Hid gDevs; rw [hh]; rfl
   have HH := Lib.hid hh
   have HB := Lib.hid (sum_take_bd hh)
   clear hh hg
   go_enter Tryz.func55, Tryz.ntmps55
   go_wp2_with fail
   refine H.out.mono ?_
   rintro e w1 ⟨rfl, hb1⟩
   have hb2 := hb0.trans (hb1.mono (by simp))
   obtain ⟨hc, hf⟩ := bcell hb1
   have hh := HH.out
   go_wp2
   go_loopw [3, 12] (fun s t wr => ∃ k : Nat, k ≤ n ∧ t = .int .i64 k ∧ s = .int .i64 (gSum (gs.take k)) ∧ Below w.heap.size w wr) (fun _ t _ => n - (RowKit.intOf t).toNat)
   case atStart => exact ⟨0, Nat.zero_le _, rfl, rfl, hb2⟩
   case round =>
    obtain ⟨k, hk, rfl, rfl, hb⟩ := hrel
    clear hc hf
    by_cases hlt : k < n
    · obtain ⟨x, hx⟩ : ∃ x, gs[k]? = some x := ⟨_, List.getElem?_eq_getElem (by have := hl.out; omega)⟩
      obtain ⟨hc1, hc2⟩ := (hgs.below hb (Nat.le_refl _)).2 k x hx
      have hs := Lib.hid (gSum_take hx)
      have hB1 := HB.out k
      have hB2 := HB.out (k + 1)
      rw [hs.out] at hB2
      clear hx
      go_wp2
      go_roundw
      case rel => exact ⟨k + 1, by omega, by go_num, by rw [hs.out], hb.alloc hb.size _⟩
      case measure => simp [RowKit.intOf]; omega
    · go_wp2
      go_ret
      exact ⟨ret_int (by rw [ht.out, List.take_of_length_le (by have := hl.out; omega)]), hb⟩
 · have hh' : gRight gs secs = false := by simpa using hh
   have ht : Hid (gDevs gs secs = 0) := by unfold Hid gDevs; rw [hh']; rfl
   clear hg hh
   have HH := Lib.hid hh'
   clear hh'
   go_enter Tryz.func55, Tryz.ntmps55
   go_wp2_with fail
   refine H.out.mono ?_
   rintro e w1 ⟨rfl, hb1⟩
   have hb2 := hb0.trans (hb1.mono (by simp))
   obtain ⟨hc, hf⟩ := bcell hb1
   have hh := HH.out
   go_wp2
   go_ret
   exact ⟨ret_int ht.out.symm, hb2⟩
theorem first_any (A : Option Addr) (n c : Nat) (gs : List (Int × Int)) (secs g : Int) (w : World) (hg : GeoAt w A n gs) :
 Calls Tryz.prog 71 #[.agg #[.slice A n c, .int .i64 secs], .int .i64 g] w fun e w' => e = .returned (.int .i64 (gFirst gs secs g)) ∧ Below w.heap.size w w' := by
 have hb0 : Below w.heap.size w (w.alloc (Obj.cells #[Value.slice A n c, Value.int IntKind.i64 secs] 24)) := (Below.refl _ _).alloc (Nat.le_refl _) _
 have H := Lib.hid (has_any A n c gs secs g (w.alloc (Obj.cells #[Value.slice A n c, Value.int IntKind.i64 secs] 24)) (hg.below hb0 (Nat.le_refl _)))
 by_cases hh : gHas gs secs g = true
 · obtain ⟨kg, x, rfl, hk, hl4, hs1, hs2, hx, hgx, ho⟩ := gHas_true hh
   obtain ⟨b, off, rfl, hgs⟩ := hg.2.2 (by have := hg.1; omega)
   have hl := Lib.hid hg.1
   have hkn : kg < n := by have := hl.out; omega
   have hn2 := hg.2.1
   have hr : gRight gs secs = true := by simp only [gHas, Bool.and_eq_true] at hh; exact hh.1.1
   have ht : Hid (gFirst gs secs kg = gSum (gs.take kg)) := by unfold Hid gFirst; rw [hh]; simp
   have HH := Lib.hid hh
   have HB := Lib.hid (sum_take_bd hr)
   clear hh hg hr hx hgx ho
   go_enter Tryz.func71, Tryz.ntmps71
   go_wp2_with fail
   refine H.out.mono ?_
   rintro e w1 ⟨rfl, hb1⟩
   have hb2 := hb0.trans (hb1.mono (by simp))
   obtain ⟨hc, hf⟩ := bcell hb1
   have hcA : w1.cell? ⟨w.heap.size, 0, none⟩ = some (.slice (some ⟨b, off, none⟩) n c) := by rw [hc _ _ (by simp)]; simp
   have hsz : w.heap.size < w1.heap.size := by have := hb1.size; simp at this; omega
   have hh := HH.out
   go_wp2
   go_loopw [5, 12] (fun s t wr => ∃ k : Nat, k ≤ kg ∧ t = .int .i64 k ∧ s = .int .i64 (gSum (gs.take k)) ∧ Below w1.heap.size w1 wr) (fun _ t _ => kg - (RowKit.intOf t).toNat)
   case atStart => exact ⟨0, Nat.zero_le _, rfl, rfl, Below.refl _ _⟩
   case round =>
    obtain ⟨k, hk, rfl, rfl, hb⟩ := hrel
    clear hc hf
    by_cases hlt : k < kg
    · obtain ⟨x, hx⟩ : ∃ x, gs[k]? = some x := ⟨_, List.getElem?_eq_getElem (by have := hl.out; omega)⟩
      obtain ⟨hc1, hc2⟩ := (hgs.below (hb2.trans (hb.mono (by omega))) (Nat.le_refl _)).2 k x hx
      have hcB := (hb.cell (p := ⟨w.heap.size, 0, none⟩) hsz).trans hcA
      have hs := Lib.hid (gSum_take hx)
      have hB1 := HB.out k
      have hB2 := HB.out (k + 1)
      rw [hs.out] at hB2
      clear hx
      go_wp2
      go_roundw
      case rel => exact ⟨k + 1, by omega, by go_num, by rw [hs.out], hb⟩
      case measure => simp [RowKit.intOf]; omega
    · go_wp2
      go_ret
      obtain rfl : k = kg := by omega
      exact ⟨ret_int ht.out.symm, hb2.trans (hb.mono (by omega))⟩
 · have hh' : gHas gs secs g = false := by simpa using hh
   have ht : Hid (gFirst gs secs g = 0) := by unfold Hid gFirst; rw [hh']; rfl
   clear hg hh
   have HH := Lib.hid hh'
   clear hh'
   go_enter Tryz.func71, Tryz.ntmps71
   go_wp2_with fail
   refine H.out.mono ?_
   rintro e w1 ⟨rfl, hb1⟩
   have hb2 := hb0.trans (hb1.mono (by simp))
   obtain ⟨hc, hf⟩ := bcell hb1
   have hh := HH.out
   go_wp2
   go_ret
   exact ⟨ret_int ht.out.symm, hb2⟩
end Go.Proofs.YtbhkbcpljakmjaaGreat

namespace Go.Proofs.YtbhkbcpljakmjaaGreat
open Go.RowKit
set_option linter.unusedVariables false
def cMay (gs : List (Int × Int)) (secs pg pa size : Int) : Bool := decide (0 < gTakes gs secs pg size) && (decide (0 ≤ pa) && decide (pa ≤ gSectors gs secs pg - gTakes gs secs pg size))
theorem gTakes_bd (gs : List (Int × Int)) (secs g size : Int) : 0 ≤ gTakes gs secs g size ∧ gTakes gs secs g size ≤ 8 := by
 unfold gTakes
 split
 · next h =>
  simp only [Bool.and_eq_true, decide_eq_true_eq] at h
  obtain ⟨⟨h1, h2⟩, h3⟩ := h
  obtain ⟨k, x, rfl, _, _, _, _, _, hgx, ho⟩ := gHas_true h1
  rw [hgx]
  obtain ⟨kd, wd⟩ := x
  unfold gTake1
  rcases gOne_true ho with ⟨e, hw1, hw2⟩ | ⟨e, hw1, hw2⟩
  · simp only at e; subst e; simp; omega
  · simp only at e hw1 hw2; subst e
    have := par_rows h2 h3 hw1 hw2
    simp; omega
 · omega
theorem gSectors_bd (gs : List (Int × Int)) (secs g : Int) : 0 ≤ gSectors gs secs g ∧ gSectors gs secs g ≤ 32768 := by
 unfold gSectors
 split
 · next h =>
  obtain ⟨k, x, rfl, _, _, _, _, _, hgx, ho⟩ := gHas_true h
  rw [hgx]
  obtain ⟨kd, wd⟩ := x
  rcases gOne_true ho with ⟨e, hw1, hw2⟩ | ⟨e, hw1, hw2⟩
  · simp only at e; subst e; simp; omega
  · simp only at e hw1 hw2; subst e
    have := mul_bd (a := secs - 16) (b := wd) (by omega) (by omega) (by omega) hw2
    simpa using this
 · omega
theorem may_any (A : Option Addr) (n c : Nat) (gs : List (Int × Int)) (secs pg pa size : Int) (w : World) (hg : GeoAt w A n gs) :
 Calls Tryz.prog 70 #[.agg #[.slice A n c, .int .i64 secs], .agg #[.int .i64 pg, .int .i64 pa], .int .i64 size] w fun e w' => e = .returned (.bool (cMay gs secs pg pa size)) ∧ Below w.heap.size w w' := by
 have hb0 : Below w.heap.size w ((w.alloc (Obj.cells #[Value.slice A n c, Value.int IntKind.i64 secs] 24)).alloc (Obj.cells #[Value.int IntKind.i64 pg, Value.int IntKind.i64 pa] 26)) :=
  ((Below.refl _ _).alloc (Nat.le_refl _) _).alloc (by simp) _
 have H := Lib.hid (takes_any A n c gs secs pg size _ (hg.below hb0 (Nat.le_refl _)))
 have H2 : Hid (∀ w1, Below w.heap.size w w1 → Calls Tryz.prog 103 #[.agg #[.slice A n c, .int .i64 secs], .int .i64 pg] w1 fun e w' => e = .returned (.int .i64 (gSectors gs secs pg)) ∧ Below w1.heap.size w1 w') :=
  Lib.hid fun w1 hb => sectors_any A n c gs secs pg w1 (hg.below hb (Nat.le_refl _))
 obtain ⟨ht1, ht2⟩ := gTakes_bd gs secs pg size
 obtain ⟨hs1, hs2⟩ := gSectors_bd gs secs pg
 clear hg
 have he : Hid (cMay gs secs pg pa size = (decide (0 < gTakes gs secs pg size) && (decide (0 ≤ pa) && decide (pa ≤ gSectors gs secs pg - gTakes gs secs pg size)))) := Lib.hid rfl
 generalize gTakes gs secs pg size = T at *
 generalize gSectors gs secs pg = S at *
 by_cases hpos : 0 < T ∧ 0 ≤ pa
 · obtain ⟨hp1, hp2⟩ := hpos
   go_enter Tryz.func70, Tryz.ntmps70
   go_wp2_with fail
   refine H.out.mono ?_
   rintro e w1 ⟨rfl, hb1⟩
   have hb2 := hb0.trans (hb1.mono (by simp; omega))
   obtain ⟨hc, hf⟩ := bcell hb1
   have k1 : w1.cell? ⟨w.heap.size, 0, none⟩ = some (.slice A n c) := by rw [hc _ _ (by simp; omega)]; simp
   have k2 : w1.cell? ⟨w.heap.size, 1, none⟩ = some (.int .i64 secs) := by rw [hc _ _ (by simp; omega)]; simp
   have k3 : w1.cell? ⟨w.heap.size + 1, 0, none⟩ = some (.int .i64 pg) := by rw [hc _ _ (by simp)]; simp
   have k4 : w1.cell? ⟨w.heap.size + 1, 1, none⟩ = some (.int .i64 pa) := by rw [hc _ _ (by simp)]; simp
   have hsz : w.heap.size + 2 ≤ w1.heap.size := by have := hb1.size; simp at this; omega
   clear hc hf hb1 hb0 H
   go_wp2_with fail
   go_region_held3 (fun W => W.cell? ⟨w.heap.size, 0, none⟩ = some (.slice A n c) ∧ W.cell? ⟨w.heap.size, 1, none⟩ = some (.int .i64 secs) ∧ W.cell? ⟨w.heap.size + 1, 0, none⟩ = some (.int .i64 pg) ∧
    W.cell? ⟨w.heap.size + 1, 1, none⟩ = some (.int .i64 pa) ∧ w.heap.size + 2 ≤ W.heap.size ∧ Below w.heap.size w W)
    (refine ⟨?_, ?_, ?_, ?_, ?_, ?_⟩ <;> first | assumption | exact hb2.drew | omega | exact keep_cell (by assumption) (by assumption) (by omega) | exact keep_below (by assumption) (by assumption) | exact keep_size (by assumption) (by assumption) | go_keep)
    (first | (go_at_call 103; obtain ⟨s1, s2, s3, s4, s5, s6⟩ := ‹_ ∧ _ ∧ _ ∧ _ ∧ _ ∧ Below w.heap.size w _›; refine (H2.out _ s6).mono ?_; rintro e w2 ⟨rfl, hb3⟩))
   go_wp2
   go_ret
   obtain ⟨_, _, _, _, _, h6⟩ := ‹_ ∧ _ ∧ _ ∧ _ ∧ _ ∧ Below w.heap.size w w2›
   have hw : IntKind.i64.wrap (S - T) = S - T := by rw [IntKind.wrap_i64]; omega
   refine ⟨ret_bool ?_, h6⟩
   rw [hw, he.out, decide_eq_true hp1, decide_eq_true hp2]
   rfl
 · have he2 : Hid (cMay gs secs pg pa size = false) := by
    unfold Hid; rw [he.out]
    by_cases h : 0 < T
    · have : ¬ 0 ≤ pa := by omega
      simp [this]
    · simp [h]
   clear he H2
   by_cases h : 0 < T
   · have hd : decide (0 ≤ pa) = false := by simp; omega
     have hd' : pa < 0 := by omega
     clear hpos
     go_enter Tryz.func70, Tryz.ntmps70
     go_wp2_with fail
     refine H.out.mono ?_
     rintro e w1 ⟨rfl, hb1⟩
     have hb2 := hb0.trans (hb1.mono (by simp; omega))
     obtain ⟨hc, hf⟩ := bcell hb1
     have k4 : w1.cell? ⟨w.heap.size + 1, 1, none⟩ = some (.int .i64 pa) := by rw [hc _ _ (by simp)]; simp
     clear hc hf
     go_wp2_with fail
     go_quiet (fail)
     go_wp2
     go_ret
     exact ⟨ret_bool he2.out.symm, below_drewN hb2 _⟩
   · have hd : decide (0 < T) = false := by simp; omega
     have hd' : T ≤ 0 := by omega
     clear hpos
     go_enter Tryz.func70, Tryz.ntmps70
     go_wp2_with fail
     refine H.out.mono ?_
     rintro e w1 ⟨rfl, hb1⟩
     have hb2 := hb0.trans (hb1.mono (by simp; omega))
     go_wp2_with fail
     go_quiet (fail)
     go_wp2
     go_ret
     exact ⟨ret_bool he2.out.symm, below_drewN hb2 _⟩
end Go.Proofs.YtbhkbcpljakmjaaGreat
