/-
  == on places, sums and pointers.
  Contracts of package ptr: None, Bytes.
  The walks of LeLays, LeUnlike, LePads.
  The walk of LeUnlike.
  Plain words on pointers: unlike pointers have unlike bytes; what is right can be laid.
  What is in a device's cache, in order; a crash, sector by sector. No program stands here.
  Flushed, written again, crashed: what was flushed is read. No program stands here.
  Contracts of package code: again.
  DERIVED: THE SHELF's CONTRACTS AT THIS DUMP, IN PLAIN WORDS (tools/lay-plain.mjs out of 'TryShelf.lean', which tools/lay-shelf.mjs wrote): THE SAME DECLARATIONS UNDER THE SAME NAMES: 'import', 'namespace', 'open', 'def', 'theorem' AND NOTHING ELSE: no command of the shelf's: FOR A HAND-IN. Each laying: the table of numbers ('.._ren') and one theorem, a field a fact of the dump's own or the kernel's comparison; each contract: ONE APPLICATION.
-/
import Derived.Test.YtbhkbcpljakmjaaGreatJ16
import Derived.Test.YtbhkbcpljakmjaaGreatJ06
import Derived.Test.YtbhkbcpljakmjaaGreatJ02
import Derived.Test.YtbhkbcpljakmjaaGreatJ20
import Derived.Test.YtbhkbcpljakmjaaGreatJ19
import Derived.Shelf.Strings.Builder1
import Derived.Shelf.Strings.Builder2
import Derived.Shelf.Strings.OnBuilder
import Derived.Shelf.Strings.BuilderF
import Derived.Test.YtbhkbcpljakmjaaGreatProg
namespace Go.Proofs.YtbhkbcpljakmjaaGreat
open Go.RowKit
set_option linter.unusedVariables false

theorem Tryz.stoodPlace : Tryz.prog.stoodInHeld 26 = false := by kernel_rfl
theorem Tryz.stoodPtr : Tryz.prog.stoodInHeld 31 = false := by kernel_rfl

theorem eqIn_place (w : World) (d : Nat) (a b c e : Int) : (Op.equalIn (d + 2) 26 (.agg #[.int .i64 a, .int .i64 b]) (.agg #[.int .i64 c, .int .i64 e])).run Tryz.prog w = .ok (a == c && b == e) w := by
  rw [run_equalIn_struct w (d + 1) _ _ _ (by kernel_rfl) Tryz.stoodPlace]
  simp [go_sem, Tryz.underlying26]
  by_cases h1 : a = c <;> by_cases h2 : b = e <;> simp [h1, h2]

theorem eqIn_sum (w : World) (d : Nat) (a0 a1 a2 a3 b0 b1 b2 b3 : Nat) : (Op.equalIn (d + 2) 29 (.agg #[.int .u64 a0, .int .u64 a1, .int .u64 a2, .int .u64 a3]) (.agg #[.int .u64 b0, .int .u64 b1, .int .u64 b2, .int .u64 b3])).run Tryz.prog w =
    .ok ((a0 : Int) == b0 && ((a1 : Int) == b1 && ((a2 : Int) == b2 && (a3 : Int) == b3))) w := by
  rw [Op.equalIn]
  simp only [Sem.run_bind, run_underlying Tryz.underlying29, Result.andThen_ok]
  simp [go_sem, Tryz.sizeOf27, Std.Legacy.Range.forIn_eq_forIn_range', Std.Legacy.Range.size, List.range']
  repeat' split
  all_goals (congr 1; simp_all)

def ptrEq (p q : PtrD) : Bool := decide (p = q)
theorem eql_ptr (p q : PtrD) (w : World) : (binOp .eql 31 (.agg p.cells) (.agg q.cells)).run Tryz.prog w = .ok (.bool (ptrEq p q)) w := by
  obtain ⟨a1, a2, a3, a4, a5, a6, a7, a8, a9, aa, ab, ac⟩ := p
  obtain ⟨b1, b2, b3, b4, b5, b6, b7, b8, b9, ba, bb, bc⟩ := q
  rw [run_eql_struct, run_equalIn_struct w 9999 _ _ _ (by kernel_rfl) Tryz.stoodPtr]
  simp [go_sem, Tryz.underlying31, eqIn_place, eqIn_sum, PtrD.cells, ptrEq]
  repeat' split
  all_goals (congr 2; try simp_all)
  all_goals grind
theorem eql_place (a b c e : Int) (w : World) : (binOp .eql 26 (.agg #[.int .i64 a, .int .i64 b]) (.agg #[.int .i64 c, .int .i64 e])).run Tryz.prog w = .ok (.bool (a == c && b == e)) w := by
  rw [run_eql_struct, run_equalIn_struct w 9999 _ _ _ (by kernel_rfl) Tryz.stoodPlace]
  simp [go_sem, Tryz.underlying26]
  by_cases h1 : a = c <;> by_cases h2 : b = e <;> simp [h1, h2]
end Go.Proofs.YtbhkbcpljakmjaaGreat

namespace Go.Proofs.YtbhkbcpljakmjaaGreat
open Go.RowKit
set_option linter.unusedVariables false

def ptrZ : PtrD := ⟨0, 0, 0, 0, false, 0, 0, 0, 0, 0, 0, 0⟩
/-- All of it is zero. -/
def noneB (p : PtrD) : Bool := ptrEq p ptrZ
set_option maxRecDepth 100000 in
theorem none_any (p : PtrD) (w : World) :
    Calls Tryz.prog 42 #[.agg p.cells] w fun e w' => e = .returned (.bool (noneB p)) ∧ Below w.heap.size w w' := by
  have h := PtrAt.new w p 31
  obtain ⟨h0, h1, h2, h3, h4, h5, h6, h7, h8, h9, ha, hc⟩ := h
  simp only [Nat.zero_add] at h1 h2 h3 h4 h5 h6 h7 h8 h9 ha hc
  have he : ∀ W, (binOp .eql 31 (.agg #[.int .i64 p.ag, .int .i64 p.aa, .int .i64 p.bg, .int .i64 p.ba, .bool p.two, .int .i64 p.size, .int .i64 p.level, .int .i64 p.birth, .int .u64 p.s0, .int .u64 p.s1, .int .u64 p.s2, .int .u64 p.s3])
      (.agg #[.int .i64 0, .int .i64 0, .int .i64 0, .int .i64 0, .bool false, .int .i64 0, .int .i64 0, .int .i64 0, .int .u64 0, .int .u64 0, .int .u64 0, .int .u64 0])).run Tryz.prog W = .ok (.bool (noneB p)) W := fun W => eql_ptr p ptrZ W
  have hb := (Below.refl w.heap.size w).alloc (Nat.le_refl _) (.cells p.cells 31)
  go_enter Tryz.func42, Tryz.ntmps42
  go_wp2_with fail
  go_ret
  exact ⟨rfl, hb⟩
/-- Whether a pointer can be laid; its bytes. -/
def layOk (p : PtrD) : Bool := withinL 4294967295 [p.ag, p.aa, p.bg, p.ba, p.birth] && withinL 255 [p.size, p.level]
end Go.Proofs.YtbhkbcpljakmjaaGreat

namespace Go.Proofs.YtbhkbcpljakmjaaGreat
open Go.RowKit
set_option linter.unusedVariables false

end Go.Proofs.YtbhkbcpljakmjaaGreat

namespace Go.Proofs.YtbhkbcpljakmjaaGreat
open Go.RowKit
set_option linter.unusedVariables false

end Go.Proofs.YtbhkbcpljakmjaaGreat

namespace Go.Proofs.YtbhkbcpljakmjaaGreat
open Go.RowKit

/-- Two stretches are apart; a pointer is right. -/
def apB (gs : List (Int × Int)) (secs ag aa bg ba size : Int) : Bool := (ag != bg) || (decide (aa + gTakes gs secs ag size ≤ ba) || decide (ba + gTakes gs secs bg size ≤ aa))
def rightB (gs : List (Int × Int)) (secs : Int) (p : PtrD) : Bool :=
  decide (0 ≤ p.level) && decide (p.level ≤ 3) && decide (1 ≤ p.birth) && decide (p.birth ≤ 4294967295) && cMay gs secs p.ag p.aa p.size &&
    (if p.two then cMay gs secs p.bg p.ba p.size && apB gs secs p.ag p.aa p.bg p.ba p.size else p.bg == 0 && p.ba == 0)
theorem cMay_bd {gs : List (Int × Int)} {secs pg pa size : Int} (h : cMay gs secs pg pa size = true) : 0 ≤ pg ∧ pg ≤ 4 ∧ 0 ≤ pa ∧ pa ≤ 100000 ∧ 1 ≤ size ∧ size ≤ 4 := by
  obtain ⟨hhas, hz1, hz2, hp1, hp2, _⟩ := cMay_true h
  have hS := gSectors_bd gs secs pg
  have hT := gTakes_bd gs secs pg size
  obtain ⟨k, x, rfl, hk, hl4, _⟩ := gHas_true hhas
  omega
theorem right_pure {gs : List (Int × Int)} {secs : Int} {p : PtrD} (h : rightB gs secs p = true) : noneB p = false ∧ layOk p = true ∧ (p.two = true → (p.ag == p.bg && p.aa == p.ba) = false) := by
  simp only [rightB, Bool.and_eq_true, decide_eq_true_eq] at h
  obtain ⟨⟨⟨⟨⟨h1, h2⟩, h3⟩, h4⟩, h5⟩, h6⟩ := h
  have b := cMay_bd h5
  obtain ⟨_, _, _, _, _, ht⟩ := cMay_true h5
  refine ⟨?_, ?_, ?_⟩
  · unfold noneB ptrEq
    rw [decide_eq_false]
    intro e
    have : p.birth = 0 := by rw [e]; rfl
    omega
  · simp only [layOk, withinL, List.all_cons, List.all_nil, Bool.and_true, Bool.and_eq_true, decide_eq_true_eq]
    cases ht2 : p.two with
    | true =>
      rw [ht2, if_pos rfl, Bool.and_eq_true] at h6
      have b2 := cMay_bd h6.1
      omega
    | false =>
      rw [ht2, if_neg (by simp)] at h6
      simp at h6
      omega
  · intro ht2
    rw [ht2, if_pos rfl, Bool.and_eq_true] at h6
    obtain ⟨_, h7⟩ := h6
    simp only [apB, Bool.or_eq_true, decide_eq_true_eq] at h7
    rw [Bool.and_eq_false_iff]
    by_cases e1 : p.ag = p.bg
    · right
      rw [← e1] at h7
      simp only [bne_self_eq_false, Bool.false_eq_true, false_or] at h7
      simp; omega
    · left; simp [e1]
end Go.Proofs.YtbhkbcpljakmjaaGreat

namespace Go.Proofs.YtbhkbcpljakmjaaGreat
set_option linter.unusedVariables false
set_option linter.unusedSimpArgs false

/-- The numbers below n that have something. -/
def hasL (p : Nat → Bool) (n : Nat) : List Nat := (List.range n).filter p
namespace DevD
def pre (d : DevD) (k : Nat) : Bool := !(d.cac k).isEmpty
def keys (d : DevD) : List Nat := hasL d.pre d.med.length
/-- After the first m of the cache. -/
def crashed (d : DevD) (keep : List Int) (m : Nat) : DevD := { d with med := d.crashMed keep m, fuse := -1 }
end DevD

end Go.Proofs.YtbhkbcpljakmjaaGreat

namespace Go.Proofs.YtbhkbcpljakmjaaGreat
set_option linter.unusedVariables false
set_option linter.unusedSimpArgs false

section
variable {f : DevD → DevD} {ds : List DevD}
end
end Go.Proofs.YtbhkbcpljakmjaaGreat

namespace Go.Proofs.YtbhkbcpljakmjaaGreat
set_option linter.unusedVariables false
set_option linter.unusedSimpArgs false
open Go.RowKit

theorem getD_at {L : List Col} {k : Nat} {x : Col} (h : L[k]? = some x) : L.getD k (0, 0, false, 0) = x := by rw [List.getD_eq_getElem?_getD, h]; rfl
theorem gotD_at {L : List (List UInt8)} {k : Nat} {x : List UInt8} (h : L[k]? = some x) : L.getD k [] = x := by rw [List.getD_eq_getElem?_getD, h]; rfl
set_option maxRecDepth 20000 in
set_option maxHeartbeats 1000000 in
theorem again_any {w : World} {L : List Col} {got : List (List UInt8)} {lv gv : Value} (hl : SlAt w lv L.length (colsCells L)) (hg : SlAt w gv got.length (strC got)) (hgl : got.length = L.length) (hL64 : L.length ≤ 64) (h64 : ∀ s ∈ got, s.length ≤ 64) {at_ : Nat} (hat : at_ < L.length) :
    Calls Tryz.prog 143 #[lv, gv, .int .i64 at_] w fun e w' => e = .returned (str (againS L got at_)) ∧ Below w.heap.size w w' := by
  obtain ⟨Al, cl, rfl⟩ := hl.form
  obtain ⟨Ag, cg, rfl⟩ := hg.form
  rw [hgl] at hg ⊢
  have H := Lib.hid hl
  have HG := Lib.hid hg
  have HGL := Lib.hid hgl
  have H64 := Lib.hid h64
  obtain ⟨ya, hya⟩ : ∃ y, L[at_]? = some y := ⟨_, List.getElem?_eq_getElem hat⟩
  have HYA := Lib.hid hya
  clear hl hg hgl h64 hya
  obtain ⟨i0, hi, hz0, hz1, hz2⟩ := info_parts Tryz.infoStr
  go_enter Tryz.func143, Tryz.ntmps143
  go_wp2_with fail
  go_loopw [7, 8, 9, 14] (fun v _ _ t wr => ∃ k : Nat, k ≤ L.length ∧ t = .int .i64 k ∧ wr.ownsRow w.heap.size 9 1 v (againIx L at_ k).length (strC ((againIx L at_ k).map fun i => got.getD i [])) ∧ Below w.heap.size w wr) (fun _ _ _ t _ => L.length - (RowKit.intOf t).toNat)
  case atStart => exact ⟨0, Nat.zero_le _, rfl, World.ownsRow_nil _ _ _ _, Below.refl _ _⟩
  case round =>
    obtain ⟨k, hk, rfl, hown, hb⟩ := hrel
    have HB := Lib.hid hb
    have HOWN := Lib.hid hown
    clear hb hown
    by_cases hlt : k < L.length
    · obtain ⟨b, o, rfl, hbl, hcell⟩ := H.out.cells (by omega)
      obtain ⟨x, hx⟩ : ∃ x, L[k]? = some x := ⟨_, List.getElem?_eq_getElem hlt⟩
      obtain ⟨q0, q1, q2, q3⟩ := colsCells_at hx
      have hcl : ∀ j u, (colsCells L)[j]? = some u → wr.cell? ⟨b, o + j, none⟩ = some u := fun j u hu => (World.cell?_of_block (HB.out.block b hbl)).trans (hcell j u hu)
      have f0 : wr.cell? ⟨b, o + k * 4, none⟩ = some (.int .i64 x.1) := hcl _ _ q0
      have f1 : wr.cell? ⟨b, o + k * 4 + 1, none⟩ = some (.int .i64 x.2.1) := hcl _ _ q1
      have f2 : wr.cell? ⟨b, o + k * 4 + 2, none⟩ = some (.bool x.2.2.1) := hcl _ _ q2
      have f3 : wr.cell? ⟨b, o + k * 4 + 3, none⟩ = some (.int .i64 x.2.2.2) := hcl _ _ q3
      have hdc : decide (k < L.length) = true := decide_eq_true hlt
      have HLT := Lib.hid hlt
      have HX := Lib.hid hx
      have hi44 : (Tryz.prog.info? 71).map (·.size) = some (#[.int .i64 x.1, .int .i64 x.2.1, .bool x.2.2.1, .int .i64 x.2.2.2] : Array Value).size := by kernel_rfl
      have h1c : (#[.int .i64 x.1, .int .i64 x.2.1, .bool x.2.2.1, .int .i64 x.2.2.2] : Array Value).all (·.oneCell') = true := by kernel_rfl
      have Z2 : Blk (wr.alloc (.cells colZ 71)) wr.heap.size 71 colZ := Blk.new _ _ _
      have hth : (wr.alloc (.cells colZ 71)).there wr.heap.size 0 (#[.int .i64 x.1, .int .i64 x.2.1, .bool x.2.2.1, .int .i64 x.2.2.2] : Array Value).size := Z2.there (Nat.le_refl _)
      obtain ⟨w2, hw2⟩ : ∃ y, (wr.alloc (.cells colZ 71)).setCells wr.heap.size 0 (#[.int .i64 x.1, .int .i64 x.2.1, .bool x.2.2.1, .int .i64 x.2.2.2] : Array Value).toList = y := ⟨_, rfl⟩
      have X2 : Blk w2 wr.heap.size 71 #[.int .i64 x.1, .int .i64 x.2.1, .bool x.2.2.1, .int .i64 x.2.2.2] := by rw [← hw2]; exact Z2.putAll _ rfl
      have hb2 : Below wr.heap.size wr w2 := by rw [← hw2]; exact below_sets _ _ (keep_alloc (Below.refl _ _) _) (Nat.le_refl _)
      have hs2 : w2.heap.size = wr.heap.size + 1 := by rw [← hw2, sets_size', World.size_alloc]
      have HW2 := Lib.hid hw2
      have HX2 := Lib.hid X2
      have HK2 := Lib.hid hb2
      have HS2 := Lib.hid hs2
      have e2 : w2.cell? ⟨wr.heap.size, 2, none⟩ = some (.bool x.2.2.1) := X2.at_ rfl
      have e3 : w2.cell? ⟨wr.heap.size, 3, none⟩ = some (.int .i64 x.2.2.2) := X2.at_ rfl
      clear q0 q1 q2 q3 hcl hcell hx hbl hw2 X2 hb2 hs2 Z2
      have HD2B := Lib.hid (HB.out.trans (HK2.out.mono HB.out.size))
      have HOW2 := Lib.hid (ownsRow_same HOWN.out (fun b hb => HK2.out.block b (HOWN.out.lt b hb).2))
      obtain ⟨q0, q1, q2, q3⟩ := colsCells_at HYA.out
      obtain ⟨b1, o1, e1, hl1, hc1⟩ := H.out.cells (by omega)
      cases e1
      have fy : w2.cell? ⟨b, o + at_ * 4 + 3, none⟩ = some (.int .i64 ya.2.2.2) := keep_cell HD2B.out (hc1 _ _ q3) hl1
      have e3 : w2.cell? ⟨wr.heap.size, 3, none⟩ = some (.int .i64 x.2.2.2) := HX2.out.at_ rfl
      have hla : at_ < L.length := hat
      have hstep := againIx_step L at_ k
      rw [getD_at HX.out, getD_at HYA.out] at hstep
      have HST := Lib.hid hstep
      clear q0 q1 q2 hc1 hstep
      repeat' (first
        | (((with_reducible refine wpList_store_mid ?a1 71 (.tmp 9) (.tmp 18) ?a2 wr.heap.size 0 #[.int .i64 x.1, .int .i64 x.2.1, .bool x.2.2.1, .int .i64 x.2.2.2] ?a3 ?a4 hth hi44 h1c ?_); (case a1 => rfl); (case a2 => rfl); (case a3 => rfl); (case a4 => rfl); simp only [Act.put, List.setIfInBounds_toArray, List.set_cons_zero, List.set_cons_succ]; rw [HW2.out]))
        | go_values
        | go_skip
        | go_guarded
        | ((fail_if_success (with_reducible refine drawn_mark ?_))
           first
             | go_step
             | go_upon
             | go_back
             | (simp only [Int.not_lt, Int.not_le] at *; go_simp)
             | (go_values <;> (try go_simp))
             | (go_ite <;> go_prune <;> (try go_simp))
             | (split <;> (first | (rename_i hx; exact (hx _ rfl).elim) | go_prune))))
      obtain ⟨C, hCd, hCw, hCB, hCK, hCD⟩ := cls_below w2
      have g3 : ∀ W, C W → W.cell? ⟨wr.heap.size, 3, none⟩ = some (.int .i64 x.2.2.2) := fun W h => keep_cell (hCB W h) e3 HX2.out.lt
      have gy : ∀ W, C W → W.cell? ⟨b, o + at_ * 4 + 3, none⟩ = some (.int .i64 ya.2.2.2) := fun W h => keep_cell (hCB W h) fy (Nat.lt_of_lt_of_le hl1 HD2B.out.size)
      cases hrow : (x.2.2.2 == ya.2.2.2) with
      | false =>
        have HT : Hid (againIx L at_ (k + 1) = againIx L at_ k) := Lib.hid (by rw [HST.out, hrow]; simp)
        go_wp2_with fail
        refine wp_region_cls C (by kernel_rfl) (by kernel_rfl) hCd ?_
        repeat (first
          | go_big_quiet_skip
          | (go_big_quiet_want
             go_big_quiet_op
             first
               | go_big_quiet_on
               | (apply Exists.intro
                  refine ⟨fun W hW => ?_, ?_⟩
                  · first
                      | exact rfl
                      | exact ⟨rfl, rfl⟩
                      | (have e0 := g3 W hW; have e1 := gy W hW; simp only [e0, e1, Result.andThen_ok]; done)
                      | (have e0 := g3 W hW; have e1 := gy W hW; simp only [e0, e1, Result.andThen_ok]; first | exact ⟨trivial, rfl⟩ | exact rfl | exact ⟨rfl, rfl⟩)
                      | (skip)
                  go_big_quiet_on)))
        refine wpQuiet_nil ?_
        intro wz hwz
        have HBZ := Lib.hid (hCB wz hwz)
        clear g3 gy hCd hCB hwz hCw hCK hCD e2 e3 fy hi44 h1c hth f0 f1 f2 f3 hrow
        go_wp2_with fail
        go_roundw
        case rel => exact ⟨k + 1, HLT.out, by go_num, by rw [HT.out]; exact ownsRow_same HOW2.out (fun b hb => HBZ.out.block b (HOW2.out.lt b hb).2), HD2B.out.trans (HBZ.out.mono HD2B.out.size)⟩
        case measure => have := HLT.out; simp [RowKit.intOf]; omega
      | true =>
        by_cases hka : k = at_
        · have HT : Hid (againIx L at_ (k + 1) = againIx L at_ k) := Lib.hid (by rw [HST.out, hka]; simp)
          have hkb : ((k : Int) != at_) = false := by rw [bne_eq_false_iff_eq]; omega
          clear hka
          go_wp2_with fail
          refine wp_region_cls C (by kernel_rfl) (by kernel_rfl) hCd ?_
          repeat (first
            | go_big_quiet_skip
            | (go_big_quiet_want
               go_big_quiet_op
               first
                 | go_big_quiet_on
                 | (apply Exists.intro
                    refine ⟨fun W hW => ?_, ?_⟩
                    · first
                        | exact rfl
                        | exact ⟨rfl, rfl⟩
                        | (have e0 := g3 W hW; have e1 := gy W hW; simp only [e0, e1, Result.andThen_ok]; done)
                        | (have e0 := g3 W hW; have e1 := gy W hW; simp only [e0, e1, Result.andThen_ok]; first | exact ⟨trivial, rfl⟩ | exact rfl | exact ⟨rfl, rfl⟩)
                        | (skip)
                    go_big_quiet_on)))
          refine wpQuiet_nil ?_
          intro wz hwz
          have HBZ := Lib.hid (hCB wz hwz)
          clear g3 gy hCd hCB hwz hCw hCK hCD e2 e3 fy hi44 h1c hth f0 f1 f2 f3 hrow
          go_wp2_with fail
          go_roundw
          case rel => exact ⟨k + 1, HLT.out, by go_num, by rw [HT.out]; exact ownsRow_same HOW2.out (fun b hb => HBZ.out.block b (HOW2.out.lt b hb).2), HD2B.out.trans (HBZ.out.mono HD2B.out.size)⟩
          case measure => have := HLT.out; simp [RowKit.intOf]; omega
        · have HT : Hid (againIx L at_ (k + 1) = againIx L at_ k ++ [k]) := Lib.hid (by rw [HST.out, hrow]; simp [hka])
          have hkb : ((k : Int) != at_) = true := by rw [bne_iff_ne]; omega
          obtain ⟨s, hs⟩ : ∃ s, got[k]? = some s := ⟨_, List.getElem?_eq_getElem (by rw [HGL.out]; exact hlt)⟩
          obtain ⟨b2, o2, rfl, hl2, hc2⟩ := HG.out.cells (by omega)
          have HGS := Lib.hid (hc2 k (str s) (strC_at hs))
          have HSS := Lib.hid (gotD_at hs)
          have HL2 := Lib.hid hl2
          have hal := againIx_len L at_ k
          have hkg := hlt
          clear hka hs hc2 hl2
          go_wp2_with fail
          refine wp_region_cls C (by kernel_rfl) (by kernel_rfl) hCd ?_
          repeat (first
            | go_big_quiet_skip
            | (go_big_quiet_want
               go_big_quiet_op
               first
                 | go_big_quiet_on
                 | (apply Exists.intro
                    refine ⟨fun W hW => ?_, ?_⟩
                    · first
                        | exact rfl
                        | exact ⟨rfl, rfl⟩
                        | (have e0 := g3 W hW; have e1 := gy W hW; simp only [e0, e1, Result.andThen_ok]; done)
                        | (have e0 := g3 W hW; have e1 := gy W hW; simp only [e0, e1, Result.andThen_ok]; first | exact ⟨trivial, rfl⟩ | exact rfl | exact ⟨rfl, rfl⟩)
                        | (skip)
                    go_big_quiet_on)))
          refine wpQuiet_nil ?_
          intro wz hwz
          have HBZ := Lib.hid (HD2B.out.trans ((hCB wz hwz).mono HD2B.out.size))
          have HOZ := Lib.hid (ownsRow_same HOW2.out (fun b hb => (hCB wz hwz).block b (HOW2.out.lt b hb).2))
          have gs := keep_cell HBZ.out HGS.out HL2.out
          obtain ⟨R, hR⟩ : ∃ R, againIx L at_ k = R := ⟨_, rfl⟩
          rw [hR] at HOZ HT hal
          clear g3 gy hCd hCB hwz hCw hCK hCD e2 e3 fy hi44 h1c hth f0 f1 f2 f3 hrow hR HOWN HOW2
          go_wp2_with (at_builtin; refine wpList_append_own _ rfl _ _ 60 rfl w.heap.size 9 i0 _ 1 16 Tryz.underlying60 hi hz0 hz1 hz2 rfl (by decide) _ _ _ rfl (HOZ.out.alloc _) ⟨wz.heap.size, 0, none⟩ 1 1 [str s] rfl rfl ?c1 ?c2 (by unfold maxLen; omega) (by omega) ?c5 ?_)
          try (case c1 => exact one_new' _ _ _)
          case c2 => first | rfl | (intro u hu; simp at hu; subst hu; rfl)
          case c5 => have := HBZ.out.size; simp; omega
          intro v' w5 hown' hgrow _
          have hown5 : w5.ownsRow w.heap.size 9 1 v' (againIx L at_ (k + 1)).length (strC ((againIx L at_ (k + 1)).map fun i => got.getD i [])) := by
            rw [HT.out, List.length_append, List.map_append, List.map_cons, List.map_nil, HSS.out, strC_snoc]
            exact hown'
          have hb5 : Below w.heap.size w w5 := (HBZ.out.alloc HBZ.out.size _).grown hgrow (by have := HBZ.out.size; simp; omega) (fun k hk => (HOZ.out.lt k hk).1)
          have HO5 := Lib.hid hown5
          have HB5 := Lib.hid hb5
          clear hown' hgrow hown5 hb5 gs
          go_wp2_with fail
          go_roundw
          case rel => exact ⟨k + 1, HLT.out, by go_num, HO5.out, HB5.out⟩
          case measure => have := HLT.out; simp [RowKit.intOf]; omega
    · obtain rfl : k = L.length := by omega
      have hdc : decide ((L.length : Int) < L.length) = false := decide_eq_false (by omega)
      obtain ⟨P, hP⟩ : ∃ P, P = (againIx L at_ L.length).map fun i => got.getD i [] := ⟨_, rfl⟩
      have hso := slAt_own HOWN.out
      have hPl : (againIx L at_ L.length).length = P.length := by rw [hP, List.length_map]
      rw [← hP, hPl] at hso
      have hPn : P.length ≤ 64 := by rw [← hPl]; exact Nat.le_trans (againIx_len _ _ _) hL64
      have hP64 : (P.headD []).length ≤ 64 := by
        cases hq : P with
        | nil => exact Nat.zero_le _
        | cons a r =>
          have hm : a ∈ (againIx L at_ L.length).map fun i => got.getD i [] := by rw [← hP, hq]; exact List.mem_cons_self
          obtain ⟨i, _, hi⟩ := List.mem_map.1 hm
          show a.length ≤ 64
          rw [← hi, List.getD_eq_getElem?_getD]
          cases hgi : got[i]? with
          | none => exact Nat.zero_le _
          | some u => exact H64.out u (List.mem_of_getElem? hgi)
      have HCE := Lib.hid (conE_any hso (by omega))
      have HRES : Hid (againS L got at_ = if hasE P then [] else makeS P) := Lib.hid (by unfold againS; rw [hP])
      have HSO := Lib.hid hso
      have HP64 := Lib.hid hP64
      obtain ⟨Ap, cp, rfl⟩ := hso.form
      clear hso hP hPl hP64 HOWN
      go_wp2_with fail
      refine HCE.out.mono ?_
      rintro e w3 ⟨rfl, hb3⟩
      have HB3 := Lib.hid (keep_below hb3 HB.out)
      have HM := Lib.hid (parMake_any (HSO.out.below hb3) (by have := HP64.out; omega) (by omega))
      clear hb3
      cases hE : hasE P with
      | true =>
        rw [hE] at HRES
        clear hE
        go_wp2_with fail
        go_ret
        rw [HRES.out]
        exact ⟨rfl, HB3.out⟩
      | false =>
        rw [hE] at HRES
        clear hE
        go_wp2_with fail
        refine HM.out.mono ?_
        rintro e w4 ⟨rfl, hb4⟩
        have HB4 := Lib.hid (keep_below hb4 HB3.out)
        clear hb4
        go_wp2_with fail
        go_ret
        rw [HRES.out]
        exact ⟨rfl, HB4.out⟩
end Go.Proofs.YtbhkbcpljakmjaaGreat

namespace Go.Proofs
open Go.Shelf
def Tryz.lays156_ren : Go.Shelf.Ren := ⟨fun | 156 => 116 | 165 => 99 | 166 => 100 | 169 => 102 | 240 => 126 | 241 => 127 | 276 => 144 | 277 => 145 | n => n, fun | 31 => 60 | 9 => 9 | 3 => 3 | 4 => 4 | 0 => 0 | 20 => 20 | 72 => 165 | 76 => 169 | 70 => 163 | 37 => 79 | 75 => 168 | 127 => 197 | 164 => 212 | 5 => 5 | 80 => 171 | n => n, fun | n => n⟩
theorem Tryz.lays156 : Go.Proofs.Lays.n156 Tryz.prog Tryz.lays156_ren := {
  mixed := by kernel_rfl
  f156 := Tryz.func116.trans (congrArg some (by kernel_rfl))
  f165 := Tryz.func99.trans (congrArg some (by kernel_rfl))
  f166 := Tryz.func100.trans (congrArg some (by kernel_rfl))
  f169 := Tryz.func102.trans (congrArg some (by kernel_rfl))
  f240 := Tryz.func126.trans (congrArg some (by kernel_rfl))
  f241 := Tryz.func127.trans (congrArg some (by kernel_rfl))
  f276 := Tryz.func144.trans (congrArg some (by kernel_rfl))
  f277 := Tryz.func145.trans (congrArg some (by kernel_rfl))
  t0 := Tryz.underlying0
  a0 := Tryz.isAgg0
  z0 := Tryz.sizeOf0
  v0 := Tryz.zeroValue0
  t3 := Tryz.underlying3
  a3 := Tryz.isAgg3
  z3 := Tryz.sizeOf3
  v3 := Tryz.zeroValue3
  t4 := Tryz.underlying4
  a4 := Tryz.isAgg4
  z4 := Tryz.sizeOf4
  v4 := Tryz.zeroValue4
  t9 := Tryz.underlying9
  a9 := Tryz.isAgg9
  z9 := Tryz.sizeOf9
  v9 := Tryz.zeroValue9
  t20 := Tryz.underlying20
  a20 := Tryz.isAgg20
  z20 := Tryz.sizeOf20
  v20 := Tryz.zeroValue20
  t31 := Tryz.underlying60
  a31 := Tryz.isAgg60
  z31 := Tryz.sizeOf60
  v31 := Tryz.zeroValue60
  t37 := Tryz.underlying79
  a37 := Tryz.isAgg79
  z37 := Tryz.sizeOf79
  v37 := Tryz.zeroValue79
  t70 := Tryz.underlying163
  a70 := Tryz.isAgg163
  z70 := Tryz.sizeOf163
  v70 := Tryz.zeroValue163
  t72 := Tryz.underlying165
  a72 := Tryz.isAgg165
  z72 := Tryz.sizeOf165
  v72 := Tryz.zeroValue165
  t75 := Tryz.underlying168
  a75 := Tryz.isAgg168
  z75 := Tryz.sizeOf168
  v75 := Tryz.zeroValue168
  t76 := Tryz.underlying169
  a76 := Tryz.isAgg169
  z76 := Tryz.sizeOf169
  v76 := Tryz.zeroValue169
  t127 := Tryz.underlying197
  a127 := Tryz.isAgg197
  z127 := Tryz.sizeOf197
  v127 := Tryz.zeroValue197
  t164 := Tryz.underlying212
  a164 := Tryz.isAgg212
  z164 := Tryz.sizeOf212
  v164 := Tryz.zeroValue212 }
theorem Tryz.Builder_Extra_156 : Builder.Extra Tryz.prog Tryz.lays156_ren := {
  sizeBuilder := by kernel_rfl
  liesBuilder := by kernel_rfl
  t5 := Tryz.underlying5
  a5 := Tryz.isAgg5
  z5 := Tryz.sizeOf5
  v5 := Tryz.zeroValue5
  infoByte := by kernel_rfl
  cellsByte := by kernel_rfl
  sizeByte := by kernel_rfl
  neB5 := by decide }
open Go.RowKit in
/-- No element: the empty string; the world is as it was. (Whatever the slice's address and capacity: a nil slice too.) (LAID: no walk: one application.) -/
theorem Tryz.strings_Join_none (a : Option Addr) (c : Nat) (sep : ByteArray) (w : World) :
    Calls Tryz.prog 116 #[.slice a 0 c, .string sep] w fun e w' => e = .returned (.string ⟨#[]⟩) ∧ w' = w := Any.strings_Join_none Tryz.lays156 Tryz.Builder_Extra_156 a c sep w
open Go.RowKit in
/-- strings.Join: "Join concatenates the elements of its first argument to create a single string. The separator string sep is placed between elements in the resulting string.": HOWEVER MANY ELEMENTS. Below the heap's end the world is as it was. (LAID: no walk: one application.) -/
theorem Tryz.strings_Join (bk o c : Nat) (xs : List ByteArray) (sep : ByteArray) (w : World) (hcells : ∀ (j : Nat) x, xs[j]? = some x → w.cell? ⟨bk, o + j, none⟩ = some (.string x)) (hbk : bk < w.heap.size) (hN : xs.length ≤ 140737488355328) (hcap : xs.length ≤ c) (hlen : (Lib.join (xs.map (·.data.toList)) sep.data.toList).length ≤ 140737488355328) :
    Calls Tryz.prog 116 #[.slice (some ⟨bk, o, none⟩) xs.length c, .string sep] w fun e w' => e = .returned (.string ⟨(Lib.join (xs.map (·.data.toList)) sep.data.toList).toArray⟩) ∧ Below w.heap.size w w' := Any.strings_Join Tryz.lays156 Tryz.Builder_Extra_156 bk o c xs sep w hcells hbk hN hcap hlen
end Go.Proofs
