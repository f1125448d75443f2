/-
  DERIVED: THE SHELF's CONTRACTS AT THIS DUMP, IN PLAIN WORDS (tools/lay-plain.mjs out of 'TryShelf.lean', which tools/lay-shelf.mjs wrote): THE SAME DECLARATIONS UNDER THE SAME NAMES: 'import', 'namespace', 'open', 'def', 'theorem' AND NOTHING ELSE: no command of the shelf's: FOR A HAND-IN. Each laying: the table of numbers ('.._ren') and one theorem, a field a fact of the dump's own or the kernel's comparison; each contract: ONE APPLICATION.
  Contracts of package code: without; strings.Join of texts, a builder's texts.
  What a round keeps; contracts of package code: mirror.
-/
import Derived.Shelf.Strings.Builder1
import Derived.Shelf.Strings.Builder2
import Derived.Shelf.Strings.OnBuilder
import Derived.Shelf.Strings.BuilderF
import Derived.Test.YtbhkbcpljakmjaaGreatProg
import Derived.Test.YtbhkbcpljakmjaaGreatJ19
import Derived.Test.YtbhkbcpljakmjaaGreatJ17
import Derived.WalkKit
namespace Go.Proofs
open Go.Shelf
def Tryz.lays156_ren : Go.Shelf.Ren := ⟨fun | 156 => 116 | 165 => 99 | 166 => 100 | 169 => 102 | 240 => 126 | 241 => 127 | 276 => 144 | 277 => 145 | n => n, fun | 31 => 60 | 9 => 9 | 3 => 3 | 4 => 4 | 0 => 0 | 20 => 20 | 72 => 165 | 76 => 169 | 70 => 163 | 37 => 79 | 75 => 168 | 127 => 197 | 164 => 212 | 5 => 5 | 80 => 171 | n => n, fun | n => n⟩
theorem Tryz.lays156 : Go.Proofs.Lays.n156 Tryz.prog Tryz.lays156_ren := {
 mixed := by kernel_rfl
 f156 := Tryz.func116.trans (congrArg some (by kernel_rfl))
 f165 := Tryz.func99.trans (congrArg some (by kernel_rfl))
 f166 := Tryz.func100.trans (congrArg some (by kernel_rfl))
 f169 := Tryz.func102.trans (congrArg some (by kernel_rfl))
 f240 := Tryz.func126.trans (congrArg some (by kernel_rfl))
 f241 := Tryz.func127.trans (congrArg some (by kernel_rfl))
 f276 := Tryz.func144.trans (congrArg some (by kernel_rfl))
 f277 := Tryz.func145.trans (congrArg some (by kernel_rfl))
 t0 := Tryz.underlying0
 a0 := Tryz.isAgg0
 z0 := Tryz.sizeOf0
 v0 := Tryz.zeroValue0
 t3 := Tryz.underlying3
 a3 := Tryz.isAgg3
 z3 := Tryz.sizeOf3
 v3 := Tryz.zeroValue3
 t4 := Tryz.underlying4
 a4 := Tryz.isAgg4
 z4 := Tryz.sizeOf4
 v4 := Tryz.zeroValue4
 t9 := Tryz.underlying9
 a9 := Tryz.isAgg9
 z9 := Tryz.sizeOf9
 v9 := Tryz.zeroValue9
 t20 := Tryz.underlying20
 a20 := Tryz.isAgg20
 z20 := Tryz.sizeOf20
 v20 := Tryz.zeroValue20
 t31 := Tryz.underlying60
 a31 := Tryz.isAgg60
 z31 := Tryz.sizeOf60
 v31 := Tryz.zeroValue60
 t37 := Tryz.underlying79
 a37 := Tryz.isAgg79
 z37 := Tryz.sizeOf79
 v37 := Tryz.zeroValue79
 t70 := Tryz.underlying163
 a70 := Tryz.isAgg163
 z70 := Tryz.sizeOf163
 v70 := Tryz.zeroValue163
 t72 := Tryz.underlying165
 a72 := Tryz.isAgg165
 z72 := Tryz.sizeOf165
 v72 := Tryz.zeroValue165
 t75 := Tryz.underlying168
 a75 := Tryz.isAgg168
 z75 := Tryz.sizeOf168
 v75 := Tryz.zeroValue168
 t76 := Tryz.underlying169
 a76 := Tryz.isAgg169
 z76 := Tryz.sizeOf169
 v76 := Tryz.zeroValue169
 t127 := Tryz.underlying197
 a127 := Tryz.isAgg197
 z127 := Tryz.sizeOf197
 v127 := Tryz.zeroValue197
 t164 := Tryz.underlying212
 a164 := Tryz.isAgg212
 z164 := Tryz.sizeOf212
 v164 := Tryz.zeroValue212 }
theorem Tryz.Builder_Extra_156 : Builder.Extra Tryz.prog Tryz.lays156_ren := {
 sizeBuilder := by kernel_rfl
 liesBuilder := by kernel_rfl
 t5 := Tryz.underlying5
 a5 := Tryz.isAgg5
 z5 := Tryz.sizeOf5
 v5 := Tryz.zeroValue5
 infoByte := by kernel_rfl
 cellsByte := by kernel_rfl
 sizeByte := by kernel_rfl
 neB5 := by decide }
open Go.RowKit in
theorem Tryz.strings_Join_none (a : Option Addr) (c : Nat) (sep : ByteArray) (w : World) :
 Calls Tryz.prog 116 #[.slice a 0 c, .string sep] w fun e w' => e = .returned (.string ⟨#[]⟩) ∧ w' = w := Any.strings_Join_none Tryz.lays156 Tryz.Builder_Extra_156 a c sep w
open Go.RowKit in
theorem Tryz.strings_Join (bk o c : Nat) (xs : List ByteArray) (sep : ByteArray) (w : World) (hcells : ∀ (j : Nat) x, xs[j]? = some x → w.cell? ⟨bk, o + j, none⟩ = some (.string x)) (hbk : bk < w.heap.size) (hN : xs.length ≤ 140737488355328) (hcap : xs.length ≤ c) (hlen : (Lib.join (xs.map (·.data.toList)) sep.data.toList).length ≤ 140737488355328) :
 Calls Tryz.prog 116 #[.slice (some ⟨bk, o, none⟩) xs.length c, .string sep] w fun e w' => e = .returned (.string ⟨(Lib.join (xs.map (·.data.toList)) sep.data.toList).toArray⟩) ∧ Below w.heap.size w w' := Any.strings_Join Tryz.lays156 Tryz.Builder_Extra_156 bk o c xs sep w hcells hbk hN hcap hlen
end Go.Proofs

namespace Go.Proofs.YtbhkbcpljakmjaaGreat
set_option linter.unusedVariables false
set_option linter.unusedSimpArgs false
open Go.RowKit
theorem isB_keep {T e : TypeId} {B b : Nat} {bs : List Value} {W W' : World} (h : Lib.IsBuilder T e B b bs W) (hb : Below W.heap.size W W') : Lib.IsBuilder T e B b bs W' := by
 have key : ∀ p, Lib.BuilderAt T e B b p bs W → Lib.BuilderAt T e B b p bs W' := by
  rintro p h'
  obtain ⟨hB, v, h1, h2, h3⟩ := h'
  exact ⟨hB, v, (hb.block b (lt_of_block h1)).trans h1, h2.kept (row := none) ⟨hb.os, hb.tape, hb.output, hb.size, fun i hi _ => hb.block i hi⟩ (by cases hv : v.ownBlock with | none => exact .inl rfl | some _ => exact .inr (by simp)), h3⟩
 exact h.elim (fun x => .inl (key _ x)) (fun x => .inr (key _ x))
theorem wrS_any (B b : Nat) (bs : List Value) (s : List UInt8) (w : World) (h : Lib.IsBuilder 165 5 B b bs w) (hlen : bs.length + (ByteArray.mk s.toArray).size ≤ 140737488355328) (hBw : B ≤ w.heap.size) :
 Calls Tryz.prog 100 #[.pointer (some ⟨b, 0, none⟩), str s] w fun e w' => e = .returned (.tuple #[.int .i64 (ByteArray.mk s.toArray).size, .nilIface]) ∧ (Lib.BuilderAt 165 5 B b (.pointer (some ⟨b, 0, none⟩)) (bs ++ Lib.strCells ⟨s.toArray⟩) w' ∧ Below B w w') :=
 Any.Builder_WriteString ({ Tryz.lays156 with } : Go.Proofs.Lays.n166 Tryz.prog Tryz.lays156_ren) Tryz.Builder_Extra_156 B b bs ⟨s.toArray⟩ w h hlen hBw
theorem stS_any (B b : Nat) (l : List UInt8) (w : World) (h : Lib.IsBuilder 165 5 B b (Lib.byteCells l) w) (hBw : B ≤ w.heap.size) :
 Calls Tryz.prog 102 #[.pointer (some ⟨b, 0, none⟩)] w fun e w' => e = .returned (str l) ∧ Below B w w' :=
 (Any.Builder_String_any ({ Tryz.lays156 with } : Go.Proofs.Lays.n169 Tryz.prog Tryz.lays156_ren) Tryz.Builder_Extra_156 B b l w h hBw).mono fun e w' h => by
   first
    | exact h
    | exact ⟨h.1, h.2.1⟩
    | exact ⟨h.1, h.2.2⟩
theorem join_flat : ∀ l : List (List UInt8), Lib.join l [] = l.flatten
 | [] => rfl
 | [x] => by simp [Lib.join]
 | x :: y :: r => by
   have := join_flat (y :: r)
   simp only [Lib.join, List.append_nil, List.flatten_cons] at *
   simp [this]
theorem join_any {w : World} {ss : List (List UInt8)} {sv : Value} (h : SlAt w sv ss.length (strC ss)) (f1 : ss.length ≤ 1000) (f2 : ss.flatten.length ≤ 1000000) :
 Calls Tryz.prog 116 #[sv, str []] w fun e w' => e = .returned (str ss.flatten) ∧ Below w.heap.size w w' := by
 obtain ⟨A, c, rfl⟩ := h.form
 cases ss with
 | nil =>
  refine (Tryz.strings_Join_none A c ⟨#[]⟩ w).mono ?_
  rintro e w' ⟨rfl, rfl⟩
  exact ⟨rfl, Below.refl _ _⟩
 | cons s r =>
  obtain ⟨_, c', e1, hc, hcl⟩ := h
  cases e1
  obtain ⟨b, o, rfl, hb, hcell⟩ := hcl (by simp)
  obtain ⟨xs, hxs⟩ : ∃ xs : List ByteArray, xs = (s :: r).map fun l => ⟨l.toArray⟩ := ⟨_, rfl⟩
  have hxl : xs.length = (s :: r).length := by rw [hxs, List.length_map]
  have hxd : Lib.join (xs.map (·.data.toList)) ([] : List UInt8) = (s :: r).flatten := by
   rw [join_flat, hxs, List.map_map]
   congr 1
   exact (List.map_congr_left (fun l _ => by simp)).trans (List.map_id _)
  have := Tryz.strings_Join b o c xs ⟨#[]⟩ w (fun j x hx => by
   refine hcell j (.string x) ?_
   rw [hxs, List.getElem?_map] at hx
   cases hq : (s :: r)[j]? with
   | none => rw [hq] at hx; cases hx
   | some u =>
    rw [hq] at hx
    simp only [Option.map_some, Option.some.injEq] at hx
    rw [← hx]
    exact strC_at hq) hb (by rw [hxl]; omega) (by rw [hxl]; exact hc) (by
    show (Lib.join (xs.map (·.data.toList)) ([] : List UInt8)).length ≤ _
    rw [hxd]; omega)
  rw [hxl] at this
  refine this.mono ?_
  rintro e w' ⟨rfl, hb'⟩
  refine ⟨?_, hb'⟩
  show Ending.returned (.string ⟨(Lib.join (xs.map (·.data.toList)) ([] : List UInt8)).toArray⟩) = _
  rw [hxd]
theorem makeS_le (l : List (List UInt8)) : (makeS l).length ≤ (l.headD []).length := by
 unfold makeS
 split
 · rename_i h
   have he := h.2
   unfold evenB at he
   rw [List.all_eq_true] at he
   rw [parN_len (fun x hx => by simpa using he x hx)]
   exact Nat.le_refl _
 · exact Nat.zero_le _
theorem againS_le {L : List Col} {got : List (List UInt8)} (h64 : ∀ s ∈ got, s.length ≤ 64) (at_ : Nat) : (againS L got at_).length ≤ 64 := by
 have hg : ∀ i, (got.getD i []).length ≤ 64 := fun i => by
  rw [List.getD_eq_getElem?_getD]
  cases h : got[i]? with
  | none => exact Nat.zero_le _
  | some u => exact h64 u (List.mem_of_getElem? h)
 have key : ∀ R : List Nat, (makeS (R.map fun i => got.getD i [])).length ≤ 64 := fun R => by
  refine Nat.le_trans (makeS_le _) ?_
  cases R with
  | nil => exact Nat.zero_le _
  | cons a r => exact hg a
 unfold againS
 simp only
 split
 · exact Nat.zero_le _
 · exact key _
theorem colTxt_le {L : List Col} {got : List (List UInt8)} (h64 : ∀ s ∈ got, s.length ≤ 64) (dev : Int) (i : Nat) : (colTxt L got dev i).length ≤ 64 := by
 unfold colTxt
 split
 · exact againS_le h64 i
 · rw [List.getD_eq_getElem?_getD]
   cases h : got[i]? with
   | none => exact Nat.zero_le _
   | some u => exact h64 u (List.mem_of_getElem? h)
theorem flat_le : ∀ {l : List (List UInt8)}, (∀ s ∈ l, s.length ≤ 64) → l.flatten.length ≤ 64 * l.length
 | [], _ => by simp
 | s :: r, h => by
   have h1 := h s List.mem_cons_self
   have h2 := flat_le (l := r) (fun x hx => h x (List.mem_cons_of_mem _ hx))
   rw [List.flatten_cons, List.length_append, List.length_cons]
   omega
set_option maxRecDepth 20000 in
set_option maxHeartbeats 1000000 in
theorem without_any {w : World} {L : List Col} {got : List (List UInt8)} {lv gv : Value} (hl : SlAt w lv L.length (colsCells L)) (hg : SlAt w gv got.length (strC got)) (hgl : got.length = L.length) (hL64 : L.length ≤ 64) (h64 : ∀ s ∈ got, s.length ≤ 64) (dev : Int) :
 Calls Tryz.prog 121 #[lv, gv, .int .i64 dev] w fun e w' => e = .returned (str (withS L got dev)) ∧ Below w.heap.size w w' := by
 obtain ⟨Al, cl, rfl⟩ := hl.form
 obtain ⟨Ag, cg, rfl⟩ := hg.form
 rw [hgl] at hg ⊢
 have HGG : Hid (SlAt w (.slice Ag L.length cg) got.length (strC got)) := Lib.hid (by rw [hgl]; exact hg)
 obtain ⟨w1, hw1⟩ : ∃ z, w.alloc (.cells #[.pointer none, .slice none 0 0] 165) = z := ⟨_, rfl⟩
 have hd1 : Below w.heap.size w w1 := by rw [← hw1]; exact keep_alloc (Below.refl _ _) _
 have hs1 : w.heap.size + 1 ≤ w1.heap.size := by rw [← hw1]; simp
 have hI1 : Lib.IsBuilder 165 5 w.heap.size w.heap.size (Lib.byteCells []) w1 := .inl ⟨Nat.le_refl _, .slice none 0 0, by rw [← hw1]; exact Blk.new w _ _, World.ownsRow_nil _ _ _ _, by simp [Value.ownBlock]⟩
 have H := Lib.hid hl
 have HG := Lib.hid hg
 have HGL := Lib.hid hgl
 have H64 := Lib.hid h64
 have HLL := Lib.hid hl
 have HW1 := Lib.hid hw1
 have HI1 := Lib.hid (And.intro hI1 (And.intro hd1 hs1))
 have HRES : Hid (withS L got dev = if hasE ((dataIx L L.length).map (colTxt L got dev)) then [] else ((dataIx L L.length).map (colTxt L got dev)).flatten) := Lib.hid rfl
 clear hl hg hgl h64 hw1 hI1 hd1 hs1
 go_enter Tryz.func121, Tryz.ntmps121
 go_wp2_with fail
 rw [HW1.out]
 go_loopw [8, 9, 10, 13] (fun _ _ _ t wr => ∃ k : Nat, k ≤ L.length ∧ t = .int .i64 k ∧ Lib.IsBuilder 165 5 w.heap.size w.heap.size (Lib.byteCells ((dataIx L k).map (colTxt L got dev)).flatten) wr ∧ hasE ((dataIx L k).map (colTxt L got dev)) = false ∧ Below w.heap.size w wr ∧ w.heap.size + 1 ≤ wr.heap.size) (fun _ _ _ t _ => L.length - (RowKit.intOf t).toNat)
 case atStart => exact ⟨0, Nat.zero_le _, rfl, HI1.out.1, rfl, HI1.out.2.1, HI1.out.2.2⟩
 case round =>
  obtain ⟨k, hk, rfl, hI, hE, hb, hs⟩ := hrel
  have HB := Lib.hid hb
  have HI := Lib.hid hI
  have HE := Lib.hid hE
  have HS := Lib.hid hs
  clear hb hI hE hs
  by_cases hlt : k < L.length
  · obtain ⟨b, o, rfl, hbl, hcell⟩ := H.out.cells (by omega)
    obtain ⟨x, hx⟩ : ∃ x, L[k]? = some x := ⟨_, List.getElem?_eq_getElem hlt⟩
    obtain ⟨q0, q1, q2, q3⟩ := colsCells_at hx
    have hcl : ∀ j u, (colsCells L)[j]? = some u → wr.cell? ⟨b, o + j, none⟩ = some u := fun j u hu => (World.cell?_of_block (HB.out.block b hbl)).trans (hcell j u hu)
    have f0 : wr.cell? ⟨b, o + k * 4, none⟩ = some (.int .i64 x.1) := hcl _ _ q0
    have f1 : wr.cell? ⟨b, o + k * 4 + 1, none⟩ = some (.int .i64 x.2.1) := hcl _ _ q1
    have f2 : wr.cell? ⟨b, o + k * 4 + 2, none⟩ = some (.bool x.2.2.1) := hcl _ _ q2
    have f3 : wr.cell? ⟨b, o + k * 4 + 3, none⟩ = some (.int .i64 x.2.2.2) := hcl _ _ q3
    have hdc : decide (k < L.length) = true := decide_eq_true hlt
    have HLT := Lib.hid hlt
    have HX := Lib.hid hx
    have hi44 : (Tryz.prog.info? 71).map (·.size) = some (#[.int .i64 x.1, .int .i64 x.2.1, .bool x.2.2.1, .int .i64 x.2.2.2] : Array Value).size := by kernel_rfl
    have h1c : (#[.int .i64 x.1, .int .i64 x.2.1, .bool x.2.2.1, .int .i64 x.2.2.2] : Array Value).all (·.oneCell') = true := by kernel_rfl
    have Z2 : Blk (wr.alloc (.cells colZ 71)) wr.heap.size 71 colZ := Blk.new _ _ _
    have hth : (wr.alloc (.cells colZ 71)).there wr.heap.size 0 (#[.int .i64 x.1, .int .i64 x.2.1, .bool x.2.2.1, .int .i64 x.2.2.2] : Array Value).size := Z2.there (Nat.le_refl _)
    obtain ⟨w2, hw2⟩ : ∃ y, (wr.alloc (.cells colZ 71)).setCells wr.heap.size 0 (#[.int .i64 x.1, .int .i64 x.2.1, .bool x.2.2.1, .int .i64 x.2.2.2] : Array Value).toList = y := ⟨_, rfl⟩
    have X2 : Blk w2 wr.heap.size 71 #[.int .i64 x.1, .int .i64 x.2.1, .bool x.2.2.1, .int .i64 x.2.2.2] := by rw [← hw2]; exact Z2.putAll _ rfl
    have hb2 : Below wr.heap.size wr w2 := by rw [← hw2]; exact below_sets _ _ (keep_alloc (Below.refl _ _) _) (Nat.le_refl _)
    have hs2 : w2.heap.size = wr.heap.size + 1 := by rw [← hw2, sets_size', World.size_alloc]
    have HW2 := Lib.hid hw2
    have HX2 := Lib.hid X2
    have HK2 := Lib.hid hb2
    have HS2 := Lib.hid hs2
    have e2 : w2.cell? ⟨wr.heap.size, 2, none⟩ = some (.bool x.2.2.1) := X2.at_ rfl
    have e3 : w2.cell? ⟨wr.heap.size, 3, none⟩ = some (.int .i64 x.2.2.2) := X2.at_ rfl
    clear q0 q1 q2 q3 hcl hcell hx hbl hw2 X2 hb2 hs2 Z2
    have HD2B := Lib.hid (HB.out.trans (HK2.out.mono HB.out.size))
    have HI2 := Lib.hid (isB_keep HI.out HK2.out)
    have e0 : w2.cell? ⟨wr.heap.size, 0, none⟩ = some (.int .i64 x.1) := HX2.out.at_ rfl
    have hstep := dataIx_step L k
    rw [getD_at HX.out] at hstep
    clear e3
    cases hp : x.2.2.1 with
    | true =>
     rw [hp] at e2 hstep
     have HT : Hid (dataIx L (k + 1) = dataIx L k) := Lib.hid (by rw [hstep]; simp)
     clear hp hstep
     repeat' (first
      | (((with_reducible refine wpList_store_mid ?a1 71 (.tmp 9) (.tmp 17) ?a2 wr.heap.size 0 #[.int .i64 x.1, .int .i64 x.2.1, .bool x.2.2.1, .int .i64 x.2.2.2] ?a3 ?a4 hth hi44 h1c ?_); (case a1 => rfl); (case a2 => rfl); (case a3 => rfl); (case a4 => rfl); simp only [Act.put, List.setIfInBounds_toArray, List.set_cons_zero, List.set_cons_succ]; rw [HW2.out]))
      | go_values
      | go_skip
      | go_guarded
      | ((fail_if_success (with_reducible refine drawn_mark ?_))
         first
          | go_step
          | go_upon
          | go_back
          | (simp only [Int.not_lt, Int.not_le] at *; go_simp)
          | (go_values <;> (try go_simp))
          | (go_ite <;> go_prune <;> (try go_simp))
          | (split <;> (first | (rename_i hx; exact (hx _ rfl).elim) | go_prune))))
     go_roundw
     case rel => exact ⟨k + 1, HLT.out, by go_num, by rw [HT.out]; exact HI2.out, by rw [HT.out]; exact HE.out, HD2B.out, Nat.le_trans HS.out HK2.out.size⟩
     case measure => have := HLT.out; simp [RowKit.intOf]; omega
    | false =>
     rw [hp] at e2 hstep
     obtain ⟨s, hs⟩ : ∃ s, got[k]? = some s := ⟨_, List.getElem?_eq_getElem (by rw [HGL.out]; exact hlt)⟩
     obtain ⟨b2, o2, rfl, hl2, hc2⟩ := HG.out.cells (by omega)
     have gs : w2.cell? ⟨b2, o2 + k, none⟩ = some (str s) := keep_cell HD2B.out (hc2 k (str s) (strC_at hs)) hl2
     obtain ⟨u, hu⟩ : ∃ u, colTxt L got dev k = u := ⟨_, rfl⟩
     have HT : Hid ((dataIx L (k + 1)).map (colTxt L got dev) = (dataIx L k).map (colTxt L got dev) ++ [u]) := Lib.hid (by rw [hstep]; simp [hu])
     have HU : Hid (u = if x.1 == dev then againS L got k else s) := Lib.hid (by rw [← hu]; unfold colTxt; rw [getD_at HX.out, gotD_at hs])
     have HUL : Hid (u.length ≤ 64) := Lib.hid (by rw [← hu]; exact colTxt_le H64.out dev k)
     have HFL : Hid (((dataIx L k).map (colTxt L got dev)).flatten.length ≤ 64 * k) := Lib.hid (by
      refine Nat.le_trans (flat_le (fun s hs => ?_)) (Nat.mul_le_mul_left 64 (by rw [List.length_map]; exact dataIx_len L k))
      obtain ⟨i, _, rfl⟩ := List.mem_map.1 hs
      exact colTxt_le H64.out dev i)
     have hkg := hlt
     have HAG := Lib.hid (fun W (hW : Below w.heap.size w W) => again_any (HLL.out.below hW) (HGG.out.below hW) HGL.out hL64 H64.out hlt)
     obtain ⟨Y, hY⟩ : ∃ Y, (dataIx L k).map (colTxt L got dev) = Y := ⟨_, rfl⟩
     rw [hY] at HI2 HT HFL HE
     clear hp hstep hs hc2 hl2 hu hY HI HG
     cases hdv : (x.1 == dev) with
     | true =>
      rw [hdv] at HU
      repeat' (first
       | (((with_reducible refine wpList_store_mid ?a1 71 (.tmp 9) (.tmp 17) ?a2 wr.heap.size 0 #[.int .i64 x.1, .int .i64 x.2.1, .bool x.2.2.1, .int .i64 x.2.2.2] ?a3 ?a4 hth hi44 h1c ?_); (case a1 => rfl); (case a2 => rfl); (case a3 => rfl); (case a4 => rfl); simp only [Act.put, List.setIfInBounds_toArray, List.set_cons_zero, List.set_cons_succ]; rw [HW2.out]))
       | go_values
       | go_skip
       | go_guarded
       | ((fail_if_success (with_reducible refine drawn_mark ?_))
          first
           | go_step
           | go_upon
           | go_back
           | (simp only [Int.not_lt, Int.not_le] at *; go_simp)
           | (go_values <;> (try go_simp))
           | (go_ite <;> go_prune <;> (try go_simp))
           | (split <;> (first | (rename_i hx; exact (hx _ rfl).elim) | go_prune))))
      refine (HAG.out w2 HD2B.out).mono ?_
      rintro e w3 ⟨rfl, hb3⟩
      have hU : againS L got k = u := by rw [HU.out]; rfl
      rw [hU]
      have HI3 := Lib.hid (isB_keep HI2.out hb3)
      have HB3 := Lib.hid (keep_below hb3 HD2B.out)
      have HB3s := Lib.hid hb3.size
      clear hb3 hU gs e0 e2 hdv HAG f0 f1 f2 f3
      by_cases hue : u = []
      · have hu1 : (u == []) = true := by rw [hue]; rfl
        have HEE : Hid (hasE ((dataIx L L.length).map (colTxt L got dev)) = true) := Lib.hid (by
         unfold hasE
         rw [List.any_eq_true]
         refine ⟨u, ?_, by rw [hue]; rfl⟩
         have hm : u ∈ (dataIx L (k + 1)).map (colTxt L got dev) := by rw [HT.out]; simp
         obtain ⟨i, hi, rfl⟩ := List.mem_map.1 hm
         refine List.mem_map.2 ⟨i, ?_, rfl⟩
         have h1 := HLT.out
         unfold dataIx at hi ⊢
         rw [List.mem_filter, List.mem_range] at hi ⊢
         exact ⟨by omega, hi.2⟩)
        rw [HEE.out] at HRES
        clear hue
        go_wp2_with fail
        go_ret
        rw [HRES.out]
        exact ⟨rfl, HB3.out⟩
      · have hu1 : (u == []) = false := beq_eq_false_iff_ne.2 hue
        have hu2 : u.isEmpty = false := by simpa using hue
        have HEE : Hid (hasE (Y ++ [u]) = false) := Lib.hid (by rw [hasE_snoc, HE.out, hu2]; rfl)
        have HS3 : Hid (w.heap.size + 1 ≤ w3.heap.size) := Lib.hid (Nat.le_trans HS.out (Nat.le_trans HK2.out.size (by first | exact Nat.le_refl _ | exact HB3s.out)))
        have HWS := Lib.hid (wrS_any w.heap.size w.heap.size _ u w3 HI3.out (by rw [Lib.byteCells_length]; have := HFL.out; have := HUL.out; rw [show (ByteArray.mk u.toArray).size = u.length from by simp [ByteArray.size]]; omega) (by have := HS3.out; omega))
        clear hue
        go_wp2_with fail
        refine HWS.out.mono ?_
        rintro e w4 ⟨rfl, hI4, hb4⟩
        have HI4 : Hid (Lib.IsBuilder 165 5 w.heap.size w.heap.size (Lib.byteCells (Y ++ [u]).flatten) w4) := Lib.hid (.inr (by
         have e : Lib.byteCells (Y ++ [u]).flatten = Lib.byteCells Y.flatten ++ Lib.strCells ⟨u.toArray⟩ := by show _ = Lib.byteCells Y.flatten ++ Lib.byteCells u; simp [Lib.byteCells]
         rw [e]; exact hI4))
        have HB4 := Lib.hid (And.intro (HB3.out.trans hb4) (Nat.le_trans HS3.out hb4.size))
        clear hI4 hb4
        go_wp2_with fail
        go_roundw
        case rel => exact ⟨k + 1, HLT.out, by go_num, by rw [HT.out]; exact HI4.out, by rw [HT.out]; exact HEE.out, HB4.out.1, HB4.out.2⟩
        case measure => have := HLT.out; simp [RowKit.intOf]; omega
     | false =>
      rw [hdv] at HU
      have hU : u = s := by rw [HU.out]; rfl
      subst hU
      have HI3 := HI2
      have HB3 := HD2B
      by_cases hue : u = []
      · have hu1 : (u == []) = true := by rw [hue]; rfl
        have HEE : Hid (hasE ((dataIx L L.length).map (colTxt L got dev)) = true) := Lib.hid (by
         unfold hasE
         rw [List.any_eq_true]
         refine ⟨u, ?_, by rw [hue]; rfl⟩
         have hm : u ∈ (dataIx L (k + 1)).map (colTxt L got dev) := by rw [HT.out]; simp
         obtain ⟨i, hi, rfl⟩ := List.mem_map.1 hm
         refine List.mem_map.2 ⟨i, ?_, rfl⟩
         have h1 := HLT.out
         unfold dataIx at hi ⊢
         rw [List.mem_filter, List.mem_range] at hi ⊢
         exact ⟨by omega, hi.2⟩)
        rw [HEE.out] at HRES
        clear hue
        repeat' (first
         | (((with_reducible refine wpList_store_mid ?a1 71 (.tmp 9) (.tmp 17) ?a2 wr.heap.size 0 #[.int .i64 x.1, .int .i64 x.2.1, .bool x.2.2.1, .int .i64 x.2.2.2] ?a3 ?a4 hth hi44 h1c ?_); (case a1 => rfl); (case a2 => rfl); (case a3 => rfl); (case a4 => rfl); simp only [Act.put, List.setIfInBounds_toArray, List.set_cons_zero, List.set_cons_succ]; rw [HW2.out]))
         | go_values
         | go_skip
         | go_guarded
         | ((fail_if_success (with_reducible refine drawn_mark ?_))
            first
             | go_step
             | go_upon
             | go_back
             | (simp only [Int.not_lt, Int.not_le] at *; go_simp)
             | (go_values <;> (try go_simp))
             | (go_ite <;> go_prune <;> (try go_simp))
             | (split <;> (first | (rename_i hx; exact (hx _ rfl).elim) | go_prune))))
        go_ret
        rw [HRES.out]
        exact ⟨rfl, HB3.out⟩
      · have hu1 : (u == []) = false := beq_eq_false_iff_ne.2 hue
        have hu2 : u.isEmpty = false := by simpa using hue
        have HEE : Hid (hasE (Y ++ [u]) = false) := Lib.hid (by rw [hasE_snoc, HE.out, hu2]; rfl)
        have HS3 : Hid (w.heap.size + 1 ≤ w2.heap.size) := Lib.hid (Nat.le_trans HS.out (Nat.le_trans HK2.out.size (by first | exact Nat.le_refl _ | exact HB3s.out)))
        have HWS := Lib.hid (wrS_any w.heap.size w.heap.size _ u w2 HI3.out (by rw [Lib.byteCells_length]; have := HFL.out; have := HUL.out; rw [show (ByteArray.mk u.toArray).size = u.length from by simp [ByteArray.size]]; omega) (by have := HS3.out; omega))
        clear hue
        repeat' (first
         | (((with_reducible refine wpList_store_mid ?a1 71 (.tmp 9) (.tmp 17) ?a2 wr.heap.size 0 #[.int .i64 x.1, .int .i64 x.2.1, .bool x.2.2.1, .int .i64 x.2.2.2] ?a3 ?a4 hth hi44 h1c ?_); (case a1 => rfl); (case a2 => rfl); (case a3 => rfl); (case a4 => rfl); simp only [Act.put, List.setIfInBounds_toArray, List.set_cons_zero, List.set_cons_succ]; rw [HW2.out]))
         | go_values
         | go_skip
         | go_guarded
         | ((fail_if_success (with_reducible refine drawn_mark ?_))
            first
             | go_step
             | go_upon
             | go_back
             | (simp only [Int.not_lt, Int.not_le] at *; go_simp)
             | (go_values <;> (try go_simp))
             | (go_ite <;> go_prune <;> (try go_simp))
             | (split <;> (first | (rename_i hx; exact (hx _ rfl).elim) | go_prune))))
        clear gs e0 e2 HAG f0 f1 f2 f3 hdv
        refine HWS.out.mono ?_
        rintro e w4 ⟨rfl, hI4, hb4⟩
        have HI4 : Hid (Lib.IsBuilder 165 5 w.heap.size w.heap.size (Lib.byteCells (Y ++ [u]).flatten) w4) := Lib.hid (.inr (by
         have e : Lib.byteCells (Y ++ [u]).flatten = Lib.byteCells Y.flatten ++ Lib.strCells ⟨u.toArray⟩ := by show _ = Lib.byteCells Y.flatten ++ Lib.byteCells u; simp [Lib.byteCells]
         rw [e]; exact hI4))
        have HB4 := Lib.hid (And.intro (HB3.out.trans hb4) (Nat.le_trans HS3.out hb4.size))
        clear hI4 hb4
        go_wp2_with fail
        go_roundw
        case rel => exact ⟨k + 1, HLT.out, by go_num, by rw [HT.out]; exact HI4.out, by rw [HT.out]; exact HEE.out, HB4.out.1, HB4.out.2⟩
        case measure => have := HLT.out; simp [RowKit.intOf]; omega
  · obtain rfl : k = L.length := by omega
    have hdc : decide ((L.length : Int) < L.length) = false := decide_eq_false (by omega)
    have HST := Lib.hid (stS_any w.heap.size w.heap.size _ wr HI.out (by have := HS.out; omega))
    rw [HE.out] at HRES
    obtain ⟨F, hF⟩ : ∃ F, ((dataIx L L.length).map (colTxt L got dev)).flatten = F := ⟨_, rfl⟩
    rw [hF] at HST HRES
    clear hF HI
    go_wp2_with fail
    refine HST.out.mono ?_
    rintro e w3 ⟨rfl, hb3⟩
    have HB3 := Lib.hid (HB.out.trans hb3)
    clear hb3
    go_wp2_with fail
    go_ret
    rw [HRES.out]
    exact ⟨rfl, HB3.out⟩
end Go.Proofs.YtbhkbcpljakmjaaGreat

namespace Go.Proofs.YtbhkbcpljakmjaaGreat
set_option linter.unusedVariables false
set_option linter.unusedSimpArgs false
open Go.RowKit
attribute [local go_sem] Oper.semAt_some
def KC (V : Nat → Prop) (W W' : World) : Prop := W.heap.size ≤ W'.heap.size ∧ ∀ b o v, ¬ V b → W.cell? ⟨b, o, none⟩ = some v → W'.cell? ⟨b, o, none⟩ = some v
theorem KC.refl (V : Nat → Prop) (W : World) : KC V W W := ⟨Nat.le_refl _, fun _ _ _ _ h => h⟩
theorem KC.trans {V : Nat → Prop} {A B C : World} (h : KC V A B) (k : KC V B C) : KC V A C := ⟨Nat.le_trans h.1 k.1, fun b o v hb hc => k.2 b o v hb (h.2 b o v hb hc)⟩
theorem kc_below {V : Nat → Prop} {W W' : World} (h : Below W.heap.size W W') : KC V W W' := ⟨h.size, fun b o v _ hc => by
 have hl : b < W.heap.size := World.block_lt_of_cell? W _ hc
 exact (World.cell?_of_block (h.block b hl)).trans hc⟩
def SlV (W : World) (V : Nat → Prop) (v : Value) (n : Nat) (cs : List Value) : Prop :=
 ∃ A c, v = .slice A n c ∧ n ≤ c ∧ (0 < n → ∃ b o, A = some ⟨b, o, none⟩ ∧ b < W.heap.size ∧ ¬ V b ∧ ∀ j u, cs[j]? = some u → W.cell? ⟨b, o + j, none⟩ = some u)
section
variable {W W' : World} {V : Nat → Prop} {v : Value} {n : Nat} {cs : List Value}
theorem SlV.kc (h : SlV W V v n cs) (hk : KC V W W') : SlV W' V v n cs := by
 obtain ⟨A, c, h1, hc, h2⟩ := h
 refine ⟨A, c, h1, hc, fun hp => ?_⟩
 obtain ⟨b, o, e1, e2, e3, e5⟩ := h2 hp
 exact ⟨b, o, e1, Nat.lt_of_lt_of_le e2 hk.1, e3, fun j u hu => hk.2 _ _ _ e3 (e5 j u hu)⟩
theorem SlV.form (h : SlV W V v n cs) : ∃ A c, v = .slice A n c := by
 obtain ⟨A, c, h1, _⟩ := h
 exact ⟨A, c, h1⟩
end
theorem SlV.to {W : World} {V : Nat → Prop} {v : Value} {n : Nat} {cs : List Value} (h : SlV W V v n cs) : SlAt W v n cs := by
 obtain ⟨A, c, h1, hc, h2⟩ := h
 refine ⟨A, c, h1, hc, fun hp => ?_⟩
 obtain ⟨b, o, e1, e2, _, e5⟩ := h2 hp
 exact ⟨b, o, e1, e2, e5⟩
theorem SlV.part {W : World} {V : Nat → Prop} {b o n c : Nat} {l : List (List UInt8)} (h : SlV W V (.slice (some ⟨b, o, none⟩) n c) n (strC l)) (hl : l.length = n) (hp : 0 < n) (i k : Nat) (hik : i + k ≤ n) :
 SlAt W (.slice (some ⟨b, o + i, none⟩) k (c - i)) k (strC ((l.drop i).take k)) := by
 obtain ⟨A, c', h1, hc, h2⟩ := h
 cases h1
 obtain ⟨b', o', e1, e2, _, e5⟩ := h2 hp
 cases e1
 refine ⟨_, _, rfl, by omega, fun hk => ⟨b, o + i, rfl, e2, fun j u hu => ?_⟩⟩
 rw [Nat.add_assoc]
 refine e5 (i + j) u ?_
 rw [strC_map] at hu ⊢
 rw [List.getElem?_map] at hu ⊢
 rw [List.getElem?_take] at hu
 split at hu
 · rw [List.getElem?_drop] at hu
   exact hu
 · cases hu
theorem grown_below {W W' : World} (h : Below W.heap.size W W') : W.grownBy W' none := ⟨h.os, h.tape, h.output, h.size, fun i hi _ => h.block i hi⟩
theorem abides_below {β : Type} {B : Nat} {J : β → World → Prop} (hJ : AbidesFrom B J) {s : β} {W W' : World} (h : J s W) (hb : Below W.heap.size W W') : J s W' := hJ s W W' none h (grown_below hb) (fun r e => by cases e)
theorem _root_.Go.RoundIn.anyDepth' {F : Fence} (hd : F.depth = none) {m m' : Nat} {P : Program} {l : Nat} {f : FuncId} {tmps : Array Value} {assign body : Code} {w : World} {R : Ending → World → Prop} (h : RoundIn F m P l f tmps assign body w R) : RoundIn F m' P l f tmps assign body w R :=
 ⟨h.1, fun c cs _ => h.2 c cs (fun k hk => by rw [hd] at hk; cases hk)⟩
theorem yield_any {F : Fence} (hd : F.depth = none) {m : Nat} (m' : Nat) {P : Program} {l : Nat} {args : Array Value} {W : World} {R : Ending → World → Prop} (h : YieldAt F m P l args W R) : YieldAt F m' P l args W R := by
 obtain ⟨fn, tmps, assign, body, hy, hR⟩ := h
 exact ⟨fn, tmps, assign, body, hy, RoundIn.anyDepth' hd hR⟩
theorem mirT_prefix (L : List Col) (sz : Nat) (got : List (List UInt8)) {k m : Nat} (h : k ≤ m) : mirT L sz got k <+: mirT L sz got m := by
 induction m with
 | zero => obtain rfl : k = 0 := by omega
           exact List.prefix_refl _
 | succ m ih =>
  by_cases e : k = m + 1
  · subst e; exact List.prefix_refl _
  · rw [mirT_step]
    exact (ih (by omega)).trans (List.prefix_append _ _)
abbrev TryX := Int × List UInt8
def tryE (x : TryX) : Array Value := #[.int .i64 x.1, str x.2]
set_option maxRecDepth 20000 in
set_option maxHeartbeats 2000000 in
theorem mirror_in (n : Nat) {L : List Col} {got : List (List UInt8)} {sz wd : Nat} {Pn : List TryX → Prop} (l : Nat) {V : Nat → Prop} {J Jx : List TryX → World → Prop} {lv gv : Value} {W : World} (hL : SlV W V lv L.length (colsCells L)) (hG : SlV W V gv got.length (strC got))
 (hlen : L.length = wd * sz) (hgl : got.length = L.length) (h1 : 1 ≤ sz) (hL64 : L.length ≤ 64) (h64 : ∀ s ∈ got, s.length ≤ 64) (hJ : AbidesFrom W.heap.size J)
 (hY : ∀ pre x W1, J pre W1 → Pn (pre ++ [x]) → YieldAt Fence.wide (n - 1) Tryz.prog l (tryE x) W1 fun e W' => (e = .returned (.bool true) ∧ J (pre ++ [x]) W' ∧ KC V W1 W') ∨ (e = .returned (.bool false) ∧ Jx (pre ++ [x]) W'))
 (hN : ∀ p, p <+: mirT L sz got wd → Pn p) (h0 : J [] W) :
 CallsIn Fence.wide n Tryz.prog 89 #[lv, .int .i64 sz, gv, .func (.yield l) #[] #[]] W fun e W' => (∃ v, e = .returned v) ∧ ((∃ xs, xs = mirT L sz got wd ∧ J xs W') ∨ (∃ pre, pre <+: mirT L sz got wd ∧ Jx pre W')) := by
 obtain ⟨Al, cl, rfl⟩ := hL.form
 obtain ⟨Ag, cg, rfl⟩ := hG.form
 rw [hgl] at hG ⊢
 have HL := Lib.hid hL
 have HG := Lib.hid hG
 have HGL := Lib.hid hgl
 have HLEN := Lib.hid hlen
 have H64 := Lib.hid h64
 have HJ := Lib.hid hJ
 have HY := Lib.hid hY
 have HN := Lib.hid hN
 have HJ0 := Lib.hid h0
 clear hL hG hgl hlen h64 hJ hY hN h0
 refine callsIn_of_wp Tryz.func89 rfl trivial ?_ rfl
 simp only [Tryz.ntmps89, List.size_toArray, List.length_cons, List.length_nil, Nat.reduceAdd, Nat.reduceSub, Array.replicate_succ, Array.replicate_zero, List.push_toArray, List.append_toArray, List.nil_append, List.cons_append]
 gi_wp2_with fail
 gi_loopw [8, 9] (fun i _ wr => ∃ k i0 : Nat, k ≤ wd ∧ i0 = k * sz ∧ i = .int .i64 i0 ∧ J (mirT L sz got k) wr ∧ KC V W wr ∧ W.heap.size ≤ wr.heap.size) (fun i _ _ => L.length - (RowKit.intOf i).toNat)
 case atStart => exact ⟨0, 0, Nat.zero_le _, by simp, rfl, HJ0.out, KC.refl _ _, Nat.le_refl _⟩
 case round =>
  obtain ⟨k, i0, hk, hi0, rfl, hJk, hkc, hszw⟩ := hrel
  have HJK := Lib.hid hJk
  have HKC := Lib.hid hkc
  have HSZ := Lib.hid hszw
  have HI0 := Lib.hid hi0
  clear hJk hkc hszw
  by_cases hlt : k < wd
  · have hks : i0 + sz ≤ L.length := by
     rw [HLEN.out, hi0, ← Nat.succ_mul]
     exact Nat.mul_le_mul_right sz hlt
    clear hi0
    have HLT := Lib.hid hlt
    have hil : i0 < L.length := by omega
    have hdc : decide (i0 < L.length) = true := decide_eq_true (by omega)
    obtain ⟨x, hx⟩ : ∃ x, L[i0]? = some x := ⟨_, List.getElem?_eq_getElem hil⟩
    have hl2 := HL.out.kc HKC.out
    have hg2 := HG.out.kc HKC.out
    obtain ⟨_, c1, e1, hcl, hcell⟩ := hl2
    cases e1
    obtain ⟨b, o, rfl, hbl, hbV, hcc⟩ := hcell (by omega)
    have hg3 := hg2
    obtain ⟨_, c2, e2, hcg, hcell2⟩ := hg2
    cases e2
    obtain ⟨b2, o2, rfl, hbl2, hbV2, hcc2⟩ := hcell2 (by omega)
    obtain ⟨P, hP⟩ : ∃ P, P = mirPart sz got k := ⟨_, rfl⟩
    have hPl : P.length = sz := by
     rw [hP]
     unfold mirPart
     rw [List.length_take, List.length_drop, ← HI0.out]
     have := HGL.out
     omega
    have hpart := hg3.part HGL.out (by omega) i0 sz hks
    rw [HI0.out] at hpart
    rw [show (got.drop (k * sz)).take sz = P from hP.symm, ← HI0.out] at hpart
    have HCE := Lib.hid (conE_any (w := wr) (ss := P) (by rw [hPl]; exact hpart) (by omega))
    have hstep := mirT_step L sz got k
    have HST := Lib.hid hstep
    have HPP := Lib.hid (And.intro hP hPl)
    have HX := Lib.hid hx
    have HPA := Lib.hid hpart
    have HC0 := Lib.hid (hcc _ _ (colsCells_at hx).1)
    have HBL := Lib.hid (And.intro hbl hbl2)
    clear hlt hx hcell hcell2 hcc hcc2 hg3 hP hPl hpart hstep hbV hbV2 hbl hbl2 HCE
    gi_wp2_with fail
    rw [show i0 + sz - i0 = sz by omega]
    obtain ⟨S0, hS0⟩ : ∃ S0 : World → Prop, S0 = fun W' => Below wr.heap.size wr W' := ⟨_, rfl⟩
    have hSw : S0 wr.drew := by rw [hS0]; exact (Below.refl _ _).drew
    have f0 : ∀ W', S0 W' → W'.cell? ⟨b, o + i0 * 4, none⟩ = some (.int .i64 x.1) := fun W' h => by rw [hS0] at h; exact keep_cell h HC0.out HBL.out.1
    have hce := conE_any (w := wr.drew) (ss := P) (by rw [HPP.out.2]; exact HPA.out.below (Below.refl _ _).drew) (by have := HPP.out.2; omega)
    have HS0 := Lib.hid hS0
    cases hE : hasE P with
    | true =>
     rw [hE] at hce
     have HCE := Lib.hid hce
     have HT : Hid (mirT L sz got (k + 1) = mirT L sz got k) := Lib.hid (by rw [HST.out]; unfold mirOne; rw [← HPP.out.1, hE]; simp)
     clear hce hE hS0
     refine wpIn_region_plan wide_wide S0 [1, 3, 11, 12] (Pl.Plan.seg 0 1 (.op 1 (Pl.Plan.seg 2 1 (.op 3 (Pl.Plan.seg 4 7 (.op 11 (.op 12 (Pl.Plan.seg 13 2 .done)))))))) (by kernel_rfl) (by kernel_rfl) (by kernel_rfl) hSw ?_
     refine Pl.wpPlan_take (k := 0) 1 (by kernel_rfl) (by kernel_rfl) ?_
     simp only [List.take_succ_cons, List.take_zero, List.drop_succ_cons, List.drop_zero]
     repeat (first | go_big_quiet_skip | (go_big_quiet_want; go_big_quiet_op; first | go_big_quiet_on | (apply Exists.intro; refine ⟨fun W hW => ?_, ?_⟩; (focus ((first | exact rfl | exact ⟨rfl, rfl⟩ | (simp only [f0 W hW, Result.andThen_ok]; first | done | exact ⟨trivial, rfl⟩ | exact rfl | exact ⟨rfl, rfl⟩) | (skip)); done)); go_big_quiet_on)))
     refine wpQuiet_nil ?_
     refine Pl.efOp_any rfl rfl ?_
     go_wp2_with fail
     refine HCE.out.mono ?_
     rintro e w4 ⟨rfl, hb4⟩
     have hb4' : Below wr.heap.size wr w4 := ⟨hb4.os, hb4.tape, hb4.output, hb4.size, fun i hi => hb4.block i hi⟩
     have hS4 : S0 w4 := by rw [HS0.out]; exact hb4'
     have HB4 := Lib.hid hb4'
     clear hb4 hb4'
     go_wp2_with fail
     refine ⟨rfl, hS4, ?_⟩
     refine Pl.wpPlan_take (k := 2) 1 (by kernel_rfl) (by kernel_rfl) ?_
     simp only [List.take_succ_cons, List.take_zero, List.drop_succ_cons, List.drop_zero]
     repeat (first | go_big_quiet_skip | (go_big_quiet_want; go_big_quiet_op; first | go_big_quiet_on | (apply Exists.intro; refine ⟨fun W hW => ?_, ?_⟩; (focus ((first | exact rfl | exact ⟨rfl, rfl⟩ | (simp only [f0 W hW, Result.andThen_ok]; first | done | exact ⟨trivial, rfl⟩ | exact rfl | exact ⟨rfl, rfl⟩) | (skip)); done)); go_big_quiet_on)))
     refine wpQuiet_nil ?_
     refine plan_readH hS4 rfl rfl (by kernel_rfl) ?_
     repeat (first | go_big_quiet_skip | (go_big_quiet_want; go_big_quiet_op; first | go_big_quiet_on | (apply Exists.intro; refine ⟨fun W hW => ?_, ?_⟩; (focus ((first | exact rfl | exact ⟨rfl, rfl⟩ | (simp only [f0 W hW, Result.andThen_ok]; first | done | exact ⟨trivial, rfl⟩ | exact rfl | exact ⟨rfl, rfl⟩) | (skip)); done)); go_big_quiet_on)))
     refine wpQuiet_nil ?_
     refine Held.mk ?_
     with_reducible refine plan_takeH (k := 4) 7 ?xx1 ?yy1 ?zz1
     case xx1 => kernel_rfl
     case yy1 => kernel_rfl
     simp only [List.take_succ_cons, List.take_zero, List.drop_succ_cons, List.drop_zero]
     repeat (first | go_big_quiet_skip | (go_big_quiet_want; go_big_quiet_op; first | go_big_quiet_on | (apply Exists.intro; refine ⟨fun W hW => ?_, ?_⟩; (focus ((first | exact rfl | exact ⟨rfl, rfl⟩ | (simp only [f0 W hW, Result.andThen_ok]; first | done | exact ⟨trivial, rfl⟩ | exact rfl | exact ⟨rfl, rfl⟩) | (skip)); done)); go_big_quiet_on)))
     refine wpQuiet_nil ?_
     refine Held.mk ?_
     with_reducible refine plan_skip (d := some 34) (o := ?oo2) (rest := ?rr2) ?xx2 ?vv2 ?yy2 ?zz2
     case xx2 => rfl
     case vv2 => rfl
     case yy2 => rfl
     with_reducible refine plan_skip (d := some 35) (o := ?oo3) (rest := ?rr3) ?xx3 ?vv3 ?yy3 ?zz3
     case xx3 => rfl
     case vv3 => rfl
     case yy3 => rfl
     with_reducible refine plan_takeH (k := 13) 2 ?xx4 ?yy4 ?zz4
     case xx4 => kernel_rfl
     case yy4 => kernel_rfl
     simp only [Act.put, List.setIfInBounds_toArray, List.set_cons_succ, List.set_cons_zero, List.take_succ_cons, List.take_zero, List.drop_succ_cons, List.drop_zero]
     repeat (first | go_big_quiet_skip | (go_big_quiet_want; go_big_quiet_op; first | go_big_quiet_on | (apply Exists.intro; refine ⟨fun W hW => ?_, ?_⟩; (focus ((first | exact rfl | exact ⟨rfl, rfl⟩ | (simp only [f0 W hW, Result.andThen_ok]; first | done | exact ⟨trivial, rfl⟩ | exact rfl | exact ⟨rfl, rfl⟩) | (skip)); done)); go_big_quiet_on)))
     refine wpQuiet_nil ?_
     refine Held.mk ?_
     simp only [Pl.wpPlan]
     have HKF : Hid (J (mirT L sz got (k + 1)) w4 ∧ KC V W w4 ∧ W.heap.size ≤ w4.heap.size) := Lib.hid ⟨by rw [HT.out]; exact abides_below HJ.out HJK.out HB4.out, HKC.out.trans (kc_below HB4.out), Nat.le_trans HSZ.out HB4.out.size⟩
     clear f0 hSw hS4
     gi_wp2_with fail
     go_roundw
     case rel => exact ⟨k + 1, i0 + sz, HLT.out, by rw [HI0.out, Nat.succ_mul], by go_num, HKF.out.1, HKF.out.2.1, HKF.out.2.2⟩
     case measure => simp [RowKit.intOf]; omega
    | false =>
     rw [hE] at hce
     have HCE := Lib.hid hce
     have HT : Hid (mirT L sz got (k + 1) = mirT L sz got k ++ [(x.1, P.flatten)]) := Lib.hid (by rw [HST.out]; unfold mirOne; rw [← HPP.out.1, hE, ← HI0.out, getD_at HX.out]; simp)
     have HFL : Hid (P.flatten.length ≤ 4096) := Lib.hid (by
      have h1 := flat_le (l := P) (fun s hs => by
       rw [HPP.out.1] at hs
       exact H64.out s (List.mem_of_mem_drop (List.mem_of_mem_take hs)))
      have := HPP.out.2
      omega)
     clear hce hE hS0
     refine wpIn_region_effG wide_wide S0 [1, 3, 11] 12 (by kernel_rfl) (by kernel_rfl) (by kernel_rfl) (by kernel_rfl) hSw ?_
     simp only [List.take_succ_cons, List.take_zero, List.drop_succ_cons, List.drop_zero]
     refine G.wpLexE_take 1 (by kernel_rfl) (by kernel_rfl) ?_
     simp only [List.take_succ_cons, List.take_zero, List.drop_succ_cons, List.drop_zero]
     repeat (first | go_big_quiet_skip | (go_big_quiet_want; go_big_quiet_op; first | go_big_quiet_on | (apply Exists.intro; refine ⟨fun W hW => ?_, ?_⟩; (focus ((first | exact rfl | exact ⟨rfl, rfl⟩ | (simp only [f0 W hW, Result.andThen_ok]; first | done | exact ⟨trivial, rfl⟩ | exact rfl | exact ⟨rfl, rfl⟩) | (skip)); done)); go_big_quiet_on)))
     refine wpQuiet_nil ?_
     show G.wpLexE _ _ _ _ _ _ _ _ _
     refine G.wpLexE_eff (by kernel_rfl) rfl ?_
     go_wp2_with fail
     refine HCE.out.mono ?_
     rintro e w4 ⟨rfl, hb4⟩
     have hb4' : Below wr.heap.size wr w4 := ⟨hb4.os, hb4.tape, hb4.output, hb4.size, fun i hi => hb4.block i hi⟩
     have hS4 : S0 w4 := by rw [HS0.out]; exact hb4'
     have HB4 := Lib.hid hb4'
     have hjo := join_any (w := w4) (ss := P) (sv := .slice (some ⟨b2, o2 + i0, none⟩) sz (cg - i0)) (by rw [HPP.out.2]; exact HPA.out.below hb4') (by have := HPP.out.2; omega) (by have := HFL.out; omega)
     have HJO := Lib.hid hjo
     clear hb4 hb4' hjo
     go_wp2_with fail
     refine ⟨rfl, hS4, ?_⟩
     refine G.wpLexE_take 1 (by kernel_rfl) (by kernel_rfl) ?_
     simp only [List.take_succ_cons, List.take_zero, List.drop_succ_cons, List.drop_zero]
     repeat (first | go_big_quiet_skip | (go_big_quiet_want; go_big_quiet_op; first | go_big_quiet_on | (apply Exists.intro; refine ⟨fun W hW => ?_, ?_⟩; (focus ((first | exact rfl | exact ⟨rfl, rfl⟩ | (simp only [f0 W hW, Result.andThen_ok]; first | done | exact ⟨trivial, rfl⟩ | exact rfl | exact ⟨rfl, rfl⟩) | (skip)); done)); go_big_quiet_on)))
     refine wpQuiet_nil ?_
     show G.wpLexE _ _ _ _ _ _ _ _ _
     refine lex_read hS4 (by kernel_rfl) rfl (by kernel_rfl) ?_
     repeat (first | go_big_quiet_skip | (go_big_quiet_want; go_big_quiet_op; first | go_big_quiet_on | (apply Exists.intro; refine ⟨fun W hW => ?_, ?_⟩; (focus ((first | exact rfl | exact ⟨rfl, rfl⟩ | (simp only [f0 W hW, Result.andThen_ok]; first | done | exact ⟨trivial, rfl⟩ | exact rfl | exact ⟨rfl, rfl⟩) | (skip)); done)); go_big_quiet_on)))
     refine wpQuiet_nil ?_
     refine G.wpLexE_take 7 (by kernel_rfl) (by kernel_rfl) ?_
     simp only [List.take_succ_cons, List.take_zero, List.drop_succ_cons, List.drop_zero]
     repeat (first | go_big_quiet_skip | (go_big_quiet_want; go_big_quiet_op; first | go_big_quiet_on | (apply Exists.intro; refine ⟨fun W hW => ?_, ?_⟩; (focus ((first | exact rfl | exact ⟨rfl, rfl⟩ | (simp only [f0 W hW, Result.andThen_ok]; first | done | exact ⟨trivial, rfl⟩ | exact rfl | exact ⟨rfl, rfl⟩) | (skip)); done)); go_big_quiet_on)))
     refine wpQuiet_nil ?_
     show G.wpLexE _ _ _ _ _ _ _ _ _
     refine G.wpLexE_effg (by kernel_rfl) (by rfl) ?_
     go_wp2_with fail
     refine HJO.out.mono ?_
     rintro e w5 ⟨rfl, hb5⟩
     have hS5 : S0 w5 := by rw [HS0.out]; exact HB4.out.trans (hb5.mono HB4.out.size)
     have HB5 := Lib.hid (HB4.out.trans (hb5.mono HB4.out.size))
     clear hb5 f0
     go_wp2_with fail
     refine ⟨rfl, hS5, ?_⟩
     have hJ5 : J (mirT L sz got k) w5 := abides_below HJ.out HJK.out HB5.out
     obtain ⟨fn, tmps, assign, body, hy, hR⟩ := HY.out (mirT L sz got k) (x.1, P.flatten) w5 hJ5 (HN.out _ (by rw [← HT.out]; exact mirT_prefix L sz got HLT.out))
     dsimp only [tryE] at hy
     have HR := Lib.hid hR
     clear hJ5 hR hS5 hS4 hSw
     show wpListIn _ _ _ _ _ _ _ _
     gi_wp2_with fail
     refine ⟨fun h => (by cases h), HR.out.mono ?_⟩
     rintro e w6 (⟨rfl, hJ6, hk6⟩ | ⟨rfl, hJx6⟩)
     · have HKF : Hid (J (mirT L sz got (k + 1)) w6 ∧ KC V W w6 ∧ W.heap.size ≤ w6.heap.size) := Lib.hid ⟨by rw [HT.out]; exact hJ6, (HKC.out.trans (kc_below HB5.out)).trans hk6, Nat.le_trans (Nat.le_trans HSZ.out HB5.out.size) hk6.1⟩
       clear hJ6 hk6 hy
       gi_wp2_with fail
       go_roundw
       case rel => exact ⟨k + 1, i0 + sz, HLT.out, by rw [HI0.out, Nat.succ_mul], by go_num, HKF.out.1, HKF.out.2.1, HKF.out.2.2⟩
       case measure => simp [RowKit.intOf]; omega
     · have HJX : Hid (Jx (mirT L sz got (k + 1)) w6) := Lib.hid (by rw [HT.out]; exact hJx6)
       have HPR := Lib.hid (mirT_prefix L sz got HLT.out)
       clear hJx6 hy
       gi_wp2_with fail
       refine bodyPost_ret (results_none rfl _ _ _) rfl ?_
       exact ⟨⟨_, rfl⟩, .inr ⟨_, HPR.out, HJX.out⟩⟩
  · obtain rfl : k = wd := by omega
    have hdc : decide (i0 < L.length) = false := decide_eq_false (by have := HLEN.out; have := HI0.out; omega)
    clear hi0
    gi_wp2_with fail
    go_end0
    exact ⟨⟨_, rfl⟩, .inl ⟨_, rfl, HJK.out⟩⟩
end Go.Proofs.YtbhkbcpljakmjaaGreat
