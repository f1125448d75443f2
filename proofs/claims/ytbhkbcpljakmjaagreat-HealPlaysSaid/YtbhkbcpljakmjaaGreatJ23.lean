/-
  Contracts of package heal: at.
  Contracts of package ptr: Places, apart, Right.
  Contracts of polderref05: whether a measure is right, what a block takes.
  Contracts of polderref06: First, May.
-/
import Derived.Test.YtbhkbcpljakmjaaGreatJ17
import Derived.Test.YtbhkbcpljakmjaaGreatJ22
import Derived.Test.YtbhkbcpljakmjaaGreatJ19
import Derived.Test.YtbhkbcpljakmjaaGreatJ21
import Derived.RangeFuncWrites
import Derived.RangeFuncLeaves
import Derived.Test.YtbhkbcpljakmjaaGreatJ05
import Derived.Test.YtbhkbcpljakmjaaGreatJ01
import Derived.Test.YtbhkbcpljakmjaaGreatJ06
namespace Go.Proofs.YtbhkbcpljakmjaaGreat
set_option linter.unusedVariables false
set_option linter.unusedSimpArgs false
open Go.RowKit
attribute [local go_sem] Oper.semAt_some
theorem kc_putObj {V : Nat → Prop} {B : Nat} (W : World) (l : Nat) (o o' : Obj) (_ : B ≤ l) (h : W.heap[l]? = some o) (hc : o.isCells = false) (_ : o.isWalk = false) : KC V W (W.putObj l o') :=
 ⟨(grownBy_putObj' W l o').size, fun b k v _ hv => cell_kept hv (grownBy_putObj' W l o') (fun r e => by cases e; exact ⟨o, h, hc⟩)⟩
theorem blk_kept {W W' : World} {g B : Nat} {t : TypeId} {cs : Array Value} {row : Option Nat} (h : Blk W g t cs) (hg : W.grownBy W' row) (hr : ∀ r, row = some r → B ≤ r ∧ ∃ o : Obj, W.heap[r]? = some o ∧ o.isCells = false) : Blk W' g t cs :=
 (hg.block g h.lt (fun e => by
   obtain ⟨_, o, h1, h2⟩ := hr g e.symm
   rw [h] at h1
   cases h1
   cases h2)).trans h
theorem eql_sum (x y : Nat × Nat × Nat × Nat) (w : World) : (binOp .eql 29 (.agg (fcells x)) (.agg (fcells y))).run Tryz.prog w = .ok (.bool (x == y)) w := by
 obtain ⟨a0, a1, a2, a3⟩ := x
 obtain ⟨b0, b1, b2, b3⟩ := y
 have h := eqIn_sum w 9998 a0 a1 a2 a3 b0 b1 b2 b3
 simp only [Nat.reduceAdd] at h
 have e : ((a0 : Int) == b0 && ((a1 : Int) == b1 && ((a2 : Int) == b2 && (a3 : Int) == b3))) = ((a0, a1, a2, a3) == (b0, b1, b2, b3)) := by
  rw [Bool.eq_iff_iff]
  simp only [Bool.and_eq_true, beq_iff_eq, Prod.mk.injEq]
  omega
 rw [e] at h
 rw [run_eql_struct]
 simp only [fcells]
 rw [h]
 rfl
def atV : Option TryX → Bool → Array Value
 | some x, _ => #[.agg #[str x.2, .int .i64 0, .int .i64 x.1, .int .i64 0], .bool true, .bool true]
 | none, E => #[.agg #[str [], .int .i64 0, .int .i64 0, .int .i64 0], .bool false, .bool (!E)]
theorem keepsFrom_below {B : Nat} {W W' : World} (h : Below W.heap.size W W') : KeepsFrom B W W' :=
 ⟨h.size, fun k o _ hk _ => (h.block k (Array.getElem?_eq_some_iff.1 hk).1).trans hk⟩
theorem find_none_of {α : Type} {p : α → Bool} {l : List α} (h : ∀ x ∈ l, p x = false) : l.find? p = none := List.find?_eq_none.2 fun x hx => by rw [h x hx]; exact Bool.false_ne_true
theorem find_some_of {α : Type} {p : α → Bool} {pre l : List α} {x : α} (h : ∀ y ∈ pre, p y = false) (hx : p x = true) (hl : pre ++ [x] <+: l) : l.find? p = some x := by
 obtain ⟨r, rfl⟩ := hl
 rw [List.find?_append, List.find?_append, find_none_of h]
 simp [List.find?, hx]
set_option maxRecDepth 20000 in
set_option maxHeartbeats 2000000 in
theorem at_any {w : World} {S : Nat → Nat → Prop} {U : Nat → Prop} {y : VX} {aw : List Bool} {ds : List DevD} (h : VdIn w S U y aw ds) (few : y.bd.length ≤ 1000) {N : Nat} (ok : DsOk N y.secs ds) (q : PtrD) (pl : Int × Int) (hm : cMay y.gs y.secs pl.1 pl.2 q.size = true) :
 Calls Tryz.prog 35 #[y.val, .agg #[.int .i64 q.ag, .int .i64 q.aa, .int .i64 q.bg, .int .i64 q.ba, .bool q.two, .int .i64 q.size, .int .i64 q.level, .int .i64 q.birth, .int .u64 q.s0, .int .u64 q.s1, .int .u64 q.s2, .int .u64 q.s3], .agg #[.int .i64 pl.1, .int .i64 pl.2]] w fun e w' =>
  e = .returned (.tuple (atV (tryAt y.gs y.secs q (rawP y.gs y.secs q.size aw ds pl) pl) (hasE (rawP y.gs y.secs q.size aw ds pl)))) ∧ Below w.heap.size w w' := by
 obtain ⟨w2, hw2⟩ : ∃ z, (((((w.alloc (.cells y.cells 37)).alloc (.cells #[.int .i64 q.ag, .int .i64 q.aa, .int .i64 q.bg, .int .i64 q.ba, .bool q.two, .int .i64 q.size, .int .i64 q.level, .int .i64 q.birth, .int .u64 q.s0, .int .u64 q.s1, .int .u64 q.s2, .int .u64 q.s3] 31)).alloc (.cells #[.int .i64 pl.1, .int .i64 pl.2] 26)).alloc (.cells #[str [], .int .i64 0, .int .i64 0, .int .i64 0] 45)).alloc (.cells #[.bool false] 4)).alloc (.cells #[.bool false] 4) = z := ⟨_, rfl⟩
 have B1 : Blk w2 w.heap.size 37 y.cells := by rw [← hw2]; exact (((((Blk.new _ _ _).alloc _).alloc _).alloc _).alloc _).alloc _
 have B2 : Blk w2 (w.heap.size + 1) 31 #[.int .i64 q.ag, .int .i64 q.aa, .int .i64 q.bg, .int .i64 q.ba, .bool q.two, .int .i64 q.size, .int .i64 q.level, .int .i64 q.birth, .int .u64 q.s0, .int .u64 q.s1, .int .u64 q.s2, .int .u64 q.s3] := by rw [← hw2]; exact ((((Blk.new2 _ _ _ _).alloc _).alloc _).alloc _).alloc _
 have B3 : Blk w2 (w.heap.size + 1 + 1) 26 #[.int .i64 pl.1, .int .i64 pl.2] := by rw [← hw2]; have := Blk.new2 (w.alloc (.cells y.cells 37)) (.cells #[.int .i64 q.ag, .int .i64 q.aa, .int .i64 q.bg, .int .i64 q.ba, .bool q.two, .int .i64 q.size, .int .i64 q.level, .int .i64 q.birth, .int .u64 q.s0, .int .u64 q.s1, .int .u64 q.s2, .int .u64 q.s3] 31) 26 #[.int .i64 pl.1, .int .i64 pl.2]; rw [World.size_alloc] at this; exact ((this.alloc _).alloc _).alloc _
 have B4 : Blk w2 (w.heap.size + 1 + 1 + 1) 45 #[str [], .int .i64 0, .int .i64 0, .int .i64 0] := by
  rw [← hw2]
  have := Blk.new2 ((w.alloc (.cells y.cells 37)).alloc (.cells #[.int .i64 q.ag, .int .i64 q.aa, .int .i64 q.bg, .int .i64 q.ba, .bool q.two, .int .i64 q.size, .int .i64 q.level, .int .i64 q.birth, .int .u64 q.s0, .int .u64 q.s1, .int .u64 q.s2, .int .u64 q.s3] 31)) (.cells #[.int .i64 pl.1, .int .i64 pl.2] 26) 45 #[str [], .int .i64 0, .int .i64 0, .int .i64 0]
  rw [World.size_alloc, World.size_alloc] at this
  exact (this.alloc _).alloc _
 have B5 : Blk w2 (w.heap.size + 1 + 1 + 1 + 1) 4 #[.bool false] := by
  rw [← hw2]
  have := Blk.new2 (((w.alloc (.cells y.cells 37)).alloc (.cells #[.int .i64 q.ag, .int .i64 q.aa, .int .i64 q.bg, .int .i64 q.ba, .bool q.two, .int .i64 q.size, .int .i64 q.level, .int .i64 q.birth, .int .u64 q.s0, .int .u64 q.s1, .int .u64 q.s2, .int .u64 q.s3] 31)).alloc (.cells #[.int .i64 pl.1, .int .i64 pl.2] 26)) (.cells #[str [], .int .i64 0, .int .i64 0, .int .i64 0] 45) 4 #[.bool false]
  rw [World.size_alloc, World.size_alloc, World.size_alloc] at this
  exact this.alloc _
 have B6 : Blk w2 (w.heap.size + 1 + 1 + 1 + 1 + 1) 4 #[.bool false] := by
  rw [← hw2]
  have := Blk.new ((((((w.alloc (.cells y.cells 37)).alloc (.cells #[.int .i64 q.ag, .int .i64 q.aa, .int .i64 q.bg, .int .i64 q.ba, .bool q.two, .int .i64 q.size, .int .i64 q.level, .int .i64 q.birth, .int .u64 q.s0, .int .u64 q.s1, .int .u64 q.s2, .int .u64 q.s3] 31)).alloc (.cells #[.int .i64 pl.1, .int .i64 pl.2] 26)).alloc (.cells #[str [], .int .i64 0, .int .i64 0, .int .i64 0] 45)).alloc (.cells #[.bool false] 4))) 4 #[.bool false]
  simpa using this
 have D2 : Below w.heap.size w w2 := by rw [← hw2]; exact keep_alloc (keep_alloc (keep_alloc (keep_alloc (keep_alloc (keep_alloc (Below.refl _ _) _) _) _) _) _) _
 have HVR := vraw_any (h.below D2) few pl.1 pl.2 q.size
 rw [ofErr_good hm] at HVR
 have HVR := Lib.hid HVR
 have HG2 := Lib.hid (h.geo.below D2 (Nat.le_refl _))
 have hfit := raw_fits (aw := aw) hm ok
 obtain ⟨R, hR⟩ : ∃ R, rawL y.gs y.secs pl.1 pl.2 q.size aw ds = R := ⟨_, rfl⟩
 have hR' : rawP y.gs y.secs q.size aw ds pl = R := hR
 have h64 := ofList_le y.gs y.secs pl.1 pl.2 q.size
 have hRl : R.length ≤ 64 := by rw [← hR]; unfold rawL; rw [List.length_map]; exact h64
 rw [hR] at HVR hfit
 rw [hR']
 have HT64 : Hid (∀ x ∈ triesL y.gs y.secs pl.1 pl.2 q.size R, x.2.length ≤ 140737488351000) := Lib.hid fun x hx => by
  have := tries_64 hfit x hx
  have := (cMay_bd hm).2.2.2.2.2
  omega
 obtain ⟨T, hT⟩ : ∃ T, triesL y.gs y.secs pl.1 pl.2 q.size R = T := ⟨_, rfl⟩
 have hAt : tryAt y.gs y.secs q R pl = T.find? fun x => fsum x.2 == q.sum := by unfold tryAt; rw [hT]
 rw [hAt]
 have HT := Lib.hid hT
 have HB := Lib.hid (And.intro B1 (And.intro B2 (And.intro B3 (And.intro B4 (And.intro B5 B6)))))
 have HD2 := Lib.hid D2
 have HW2 := Lib.hid hw2
 have HRL := Lib.hid hRl
 clear h B1 B2 B3 B4 B5 B6 D2 hw2 hm ok hR hR' h64 hRl hT hAt hfit
 refine (callsIn_wide (n := 9)).1 ?_
 refine callsIn_of_wp_marks Tryz.func35 rfl trivial (wpIn_wide.2 ?_) rfl
 simp only [Tryz.ntmps35, List.size_toArray, List.length_cons, List.length_nil, Nat.reduceAdd, Nat.reduceSub, Array.replicate_succ, Array.replicate_zero, List.push_toArray, List.append_toArray, List.nil_append, List.cons_append]
 have hB := HB.out
 rw [← HW2.out] at hB
 have x0 := hB.1.at_ (i := 0) (v := .slice (some ⟨y.gb, 0, none⟩) y.m y.cc) rfl
 have x1 := hB.1.at_ (i := 1) (v := .int .i64 y.secs) rfl
 have x2 := hB.1.at_ (i := 2) (v := .slice (some ⟨y.lb, 0, none⟩) y.bd.length y.lc) rfl
 have x3 := hB.1.at_ (i := 3) (v := .slice (some ⟨y.ab, 0, none⟩) y.bd.length y.bd.length) rfl
 have p5 := hB.2.1.at_ (i := 5) (v := .int .i64 q.size) rfl
 have l0 := hB.2.2.1.at_ (i := 0) (v := .int .i64 pl.1) rfl
 have l1 := hB.2.2.1.at_ (i := 1) (v := .int .i64 pl.2) rfl
 clear hB
 go_wp2_with fail
 rw [HW2.out]
 refine HVR.out.mono ?_
 rintro e w3 ⟨v, rfl, hsl, hb3, hnew⟩
 obtain ⟨Av, cv, rfl⟩ := hsl.form
 have HS3 := Lib.hid hsl
 have hB3 : (Blk w3 w.heap.size 37 y.cells ∧ Blk w3 (w.heap.size + 1) 31 #[.int .i64 q.ag, .int .i64 q.aa, .int .i64 q.bg, .int .i64 q.ba, .bool q.two, .int .i64 q.size, .int .i64 q.level, .int .i64 q.birth, .int .u64 q.s0, .int .u64 q.s1, .int .u64 q.s2, .int .u64 q.s3] ∧ Blk w3 (w.heap.size + 1 + 1) 26 #[.int .i64 pl.1, .int .i64 pl.2] ∧ Blk w3 (w.heap.size + 1 + 1 + 1) 45 #[str [], .int .i64 0, .int .i64 0, .int .i64 0] ∧ Blk w3 (w.heap.size + 1 + 1 + 1 + 1) 4 #[.bool false] ∧ Blk w3 (w.heap.size + 1 + 1 + 1 + 1 + 1) 4 #[.bool false]) :=
  ⟨HB.out.1.below hb3 HB.out.1.lt, HB.out.2.1.below hb3 HB.out.2.1.lt, HB.out.2.2.1.below hb3 HB.out.2.2.1.lt, HB.out.2.2.2.1.below hb3 HB.out.2.2.2.1.lt, HB.out.2.2.2.2.1.below hb3 HB.out.2.2.2.2.1.lt, HB.out.2.2.2.2.2.below hb3 HB.out.2.2.2.2.2.lt⟩
 have HB3 := Lib.hid hB3
 have HG3 := Lib.hid (HG2.out.below hb3 (Nat.le_refl _))
 have HD3 := Lib.hid (keep_below hb3 HD2.out)
 clear x0 x1 x2 x3 p5 l0 l1 hsl hb3 hnew
 have x0 := hB3.1.at_ (i := 0) (v := .slice (some ⟨y.gb, 0, none⟩) y.m y.cc) rfl
 have x1 := hB3.1.at_ (i := 1) (v := .int .i64 y.secs) rfl
 have p5 := hB3.2.1.at_ (i := 5) (v := .int .i64 q.size) rfl
 have l0 := hB3.2.2.1.at_ (i := 0) (v := .int .i64 pl.1) rfl
 have l1 := hB3.2.2.1.at_ (i := 1) (v := .int .i64 pl.2) rfl
 have HTA := Lib.hid (tries_any (w := w3) (some ⟨y.gb, 0, none⟩) y.m y.cc y.secs pl.1 pl.2 q.size (.slice Av R.length cv) ⟨_, _, _, rfl⟩)
 clear hB3
 go_wp2_with fail
 refine HTA.out.mono ?_
 rintro e w4 ⟨rfl, hbt, hb4⟩
 have hB4 : (Blk w4 w.heap.size 37 y.cells ∧ Blk w4 (w.heap.size + 1) 31 #[.int .i64 q.ag, .int .i64 q.aa, .int .i64 q.bg, .int .i64 q.ba, .bool q.two, .int .i64 q.size, .int .i64 q.level, .int .i64 q.birth, .int .u64 q.s0, .int .u64 q.s1, .int .u64 q.s2, .int .u64 q.s3] ∧ Blk w4 (w.heap.size + 1 + 1) 26 #[.int .i64 pl.1, .int .i64 pl.2] ∧ Blk w4 (w.heap.size + 1 + 1 + 1) 45 #[str [], .int .i64 0, .int .i64 0, .int .i64 0] ∧ Blk w4 (w.heap.size + 1 + 1 + 1 + 1) 4 #[.bool false] ∧ Blk w4 (w.heap.size + 1 + 1 + 1 + 1 + 1) 4 #[.bool false]) :=
  ⟨HB3.out.1.below hb4 HB3.out.1.lt, HB3.out.2.1.below hb4 HB3.out.2.1.lt, HB3.out.2.2.1.below hb4 HB3.out.2.2.1.lt, HB3.out.2.2.2.1.below hb4 HB3.out.2.2.2.1.lt, HB3.out.2.2.2.2.1.below hb4 HB3.out.2.2.2.2.1.lt, HB3.out.2.2.2.2.2.below hb4 HB3.out.2.2.2.2.2.lt⟩
 have HB4 := Lib.hid hB4
 have hg4 := HG3.out.below hb4 (Nat.le_refl _)
 have HD4 := Lib.hid (keep_below hb4 HD3.out)
 have hs4 : SlV w4 (fun _ => False) (.slice Av R.length cv) R.length (strC R) := by
  obtain ⟨A', c', h1, h2, h3⟩ := HS3.out.below hb4
  cases h1
  exact ⟨_, _, rfl, h2, fun hp => by
   obtain ⟨b, o, e1, e2, e3⟩ := h3 hp
   exact ⟨b, o, e1, e2, fun hf => hf, e3⟩⟩
 have HS4 := Lib.hid (HS3.out.below hb4)
 have hTS := tries_seqP (9 - 1) (V := fun _ => False) hbt hg4 hs4 (fun b h => h.elim)
 rw [HT.out] at hTS
 have hTT : ∀ x ∈ T, x.2.length ≤ 140737488351000 := by have := HT64.out; rw [HT.out] at this; exact this
 have HTS := Lib.hid (And.intro hTS.sub hTT)
 have HLT : Hid (w.heap.size + 1 + 1 + 1 + 1 + 1 < w4.heap.size) := Lib.hid hB4.2.2.2.2.2.lt
 clear x0 x1 p5 l0 l1 hbt hb4 hB4 hg4 hs4 hTS hTT HTA
 go_wp2_with fail
 refine (wpIn_wide (n := 9)).1 ?_
 refine wpIn_rangeFunc_ownG rfl (by decide) (gf := 87) (lb := _) rfl trivial (enters_of Tryz.func87 (by kernel_rfl) rfl)
  HTS.out.1 KC.trans (kc_putObj) (Below.refl _ _) (fun _ => rfl)
  (fun pre W => (∀ x ∈ pre, (fsum x.1.2 == q.sum) = false) ∧ Below w4.heap.size w4 W)
  (fun c pre W => c = .ret ∧ ∃ (p : List {x : TryX // x ∈ T}) (x : {x : TryX // x ∈ T}), pre = p ++ [x] ∧ (∀ x ∈ p, (fsum x.1.2 == q.sum) = false) ∧ (fsum x.1.2 == q.sum) = true ∧
    Blk W (w.heap.size + 1 + 1 + 1) 45 #[str x.1.2, .int .i64 0, .int .i64 x.1.1, .int .i64 0] ∧ Blk W (w.heap.size + 1 + 1 + 1 + 1) 4 #[.bool true] ∧ Blk W (w.heap.size + 1 + 1 + 1 + 1 + 1) 4 #[.bool true] ∧ Below w.heap.size w W) ?hI ?hIx ?h0 ?a1 ?assign ?body ?done ?stop
 case hI => exact fun s A B row hs hg hr => ⟨hs.1, ownFrom_below (β := List {x : TryX // x ∈ T}) (Nat.le_refl _) (Nat.le_refl _) s A B row hs.2 hg hr⟩
 case hIx =>
  rintro c s A B row ⟨h1, p, x, h2, h3, h4, h5, h6, h7, h8⟩ hg hr
  exact ⟨h1, p, x, h2, h3, h4, blk_kept h5 hg hr, blk_kept h6 hg hr, blk_kept h7 hg hr, ownFrom_below (β := List {x : TryX // x ∈ T}) (Nat.le_refl _) HD4.out.size s A B row h8 hg hr⟩
 case h0 => exact ⟨fun x hx => (by cases hx), Below.refl _ _⟩
 case assign =>
  intro l x W K hK
  simp only [tryE, List.zip_toArray, List.zip_cons_cons, List.zip_nil_left, List.zip_nil_right, List.foldl_toArray, List.foldl_cons, List.foldl_nil, List.size_toArray, List.length_cons, List.length_nil, List.setIfInBounds_toArray, List.set_cons_succ, List.set_cons_zero]
  gi_wp2
  exact hK
 case body =>
  rintro l pre ⟨⟨d, t⟩, hx⟩ W ⟨hpre, hb⟩ hlt
  have htl := HTS.out.2 _ hx
  have hPQ := HB4.out.2.1.below hb HB4.out.2.1.lt
  have HFS := Lib.hid (fun X => fsum_any t htl X)
  have HB := Lib.hid hb
  have HPRE := Lib.hid hpre
  have p8 := hPQ.at_ (i := 8) (v := .int .u64 q.s0) rfl
  have p9 := hPQ.at_ (i := 9) (v := .int .u64 q.s1) rfl
  have p10 := hPQ.at_ (i := 10) (v := .int .u64 q.s2) rfl
  have p11 := hPQ.at_ (i := 11) (v := .int .u64 q.s3) rfl
  have HEQ : ∀ X, (binOp .eql 29 (.agg (fcells (fsum t))) (.agg #[.int .u64 q.s0, .int .u64 q.s1, .int .u64 q.s2, .int .u64 q.s3])).run Tryz.prog X = .ok (.bool (fsum t == q.sum)) X := fun X => eql_sum (fsum t) q.sum X
  obtain ⟨F, hF⟩ : ∃ F, fsum t = F := ⟨_, rfl⟩
  simp only [hF] at HFS HEQ
  have HF := Lib.hid hF
  clear hlt hpre hb htl hPQ hF
  obtain ⟨C, hCd, hCw, hCB, hCK, hCD⟩ := cls_below W
  have f8 : ∀ X, C X → X.cell? ⟨w.heap.size + 1, 8, none⟩ = some (.int .u64 q.s0) := fun X h => keep_cell' p8 (hCB X h)
  have f9 : ∀ X, C X → X.cell? ⟨w.heap.size + 1, 9, none⟩ = some (.int .u64 q.s1) := fun X h => keep_cell' p9 (hCB X h)
  have f10 : ∀ X, C X → X.cell? ⟨w.heap.size + 1, 10, none⟩ = some (.int .u64 q.s2) := fun X h => keep_cell' p10 (hCB X h)
  have f11 : ∀ X, C X → X.cell? ⟨w.heap.size + 1, 11, none⟩ = some (.int .u64 q.s3) := fun X h => keep_cell' p11 (hCB X h)
  have HC := Lib.hid (And.intro hCB hCK)
  clear p8 p9 p10 p11 hCw hCB hCK hCD
  gi_wp2_with fail
  refine wpIn_region_effG (wide_wide.inRound l) C [1] 4 (by kernel_rfl) (by kernel_rfl) (by kernel_rfl) (by kernel_rfl) hCd ?_
  simp only [List.take_succ_cons, List.take_zero, List.drop_succ_cons, List.drop_zero]
  refine G.wpLexE_take 1 (by kernel_rfl) (by kernel_rfl) ?_
  simp only [List.take_succ_cons, List.take_zero, List.drop_succ_cons, List.drop_zero]
  repeat (first | go_big_quiet_skip | (go_big_quiet_want; go_big_quiet_op; first | go_big_quiet_on | (apply Exists.intro; refine ⟨fun W hW => ?_, ?_⟩; (focus ((first | exact rfl | exact ⟨rfl, rfl⟩ | (simp only [f8 W hW, Result.andThen_ok]; first | done | exact ⟨trivial, rfl⟩ | exact rfl | exact ⟨rfl, rfl⟩) | (skip)); done)); go_big_quiet_on)))
  refine wpQuiet_nil ?_
  show G.wpLexE _ _ _ _ _ _ _ _ _
  refine G.wpLexE_eff (by kernel_rfl) rfl ?_
  go_wp2_with fail
  refine (HFS.out _).mono ?_
  rintro e w5 ⟨rfl, hb5⟩
  have hC5 : C w5 := HC.out.2 _ _ hCd hb5
  have HC5 := Lib.hid hC5
  clear hb5
  go_wp2_with fail
  refine ⟨rfl, hC5, ?_⟩
  refine G.wpLexE_take 2 (by kernel_rfl) (by kernel_rfl) ?_
  simp only [List.take_succ_cons, List.take_zero, List.drop_succ_cons, List.drop_zero]
  repeat (first | go_big_quiet_skip | (go_big_quiet_want; go_big_quiet_op; first | go_big_quiet_on | (apply Exists.intro; refine ⟨fun W hW => ?_, ?_⟩; (focus ((first | exact rfl | exact ⟨rfl, rfl⟩ | (simp only [f8 W hW, f9 W hW, f10 W hW, f11 W hW, Result.andThen_ok]; first | done | exact ⟨trivial, rfl⟩ | exact rfl | exact ⟨rfl, rfl⟩) | (skip)); done)); go_big_quiet_on)))
  refine wpQuiet_nil ?_
  show wpListIn _ _ _ _ _ _ _ _
  have HB5 := Lib.hid (HC.out.1 _ HC5.out)
  clear f8 f9 f10 f11 hCd hC5
  cases hq : (F == q.sum) with
  | false =>
   simp only [hq] at HEQ
   have HQ := Lib.hid hq
   clear hq
   gi_wp2_with fail
   refine ⟨keepsFrom_below HB5.out, kc_below HB5.out, fun x hx => ?_, HB.out.trans (HB5.out.mono HB.out.size)⟩
   rcases List.mem_append.1 hx with hx | hx
   · exact HPRE.out x hx
   · rw [List.mem_singleton.1 hx]
     show (fsum t == q.sum) = false
     rw [HF.out]
     exact HQ.out
  | true =>
   simp only [hq] at HEQ
   have HQ := Lib.hid hq
   clear hq
   have hb5 := HB5.out
   have R4 := (HB4.out.2.2.2.1.below HB.out HB4.out.2.2.2.1.lt).below hb5 (HB4.out.2.2.2.1.below HB.out HB4.out.2.2.2.1.lt).lt
   have R5 := (HB4.out.2.2.2.2.1.below HB.out HB4.out.2.2.2.2.1.lt).below hb5 (HB4.out.2.2.2.2.1.below HB.out HB4.out.2.2.2.2.1.lt).lt
   have R6 := (HB4.out.2.2.2.2.2.below HB.out HB4.out.2.2.2.2.2.lt).below hb5 (HB4.out.2.2.2.2.2.below HB.out HB4.out.2.2.2.2.2.lt).lt
   have z0 := R4.at_ (i := 0) (v := str []) rfl
   have z1 := R4.at_ (i := 1) (v := .int .i64 0) rfl
   have z2 := R4.at_ (i := 2) (v := .int .i64 0) rfl
   have z3 := R4.at_ (i := 3) (v := .int .i64 0) rfl
   have g0 := R4.fr 0
   have g1 := R4.fr 1
   have g2 := R4.fr 2
   have g3 := R4.fr 3
   have z5 := R5.at_ (i := 0) (v := .bool false) rfl
   have g5 := R5.fr 0
   have z6 := R6.at_ (i := 0) (v := .bool false) rfl
   have g6 := R6.fr 0
   have HR := Lib.hid (And.intro R4 (And.intro R5 R6))
   clear R4 R5 R6 hb5
   gi_wp2_with fail
   refine ⟨(keepsFrom_below HB5.out).trans ((((((((KeepsOthers.setCell _ _ _).trans (KeepsOthers.setCell _ _ _)).trans (KeepsOthers.setCell _ _ _)).trans (KeepsOthers.setCell _ _ _)).trans (KeepsOthers.setCell _ _ _)).trans (KeepsOthers.setCell _ _ _))).from _), rfl, pre, ⟨(d, t), hx⟩, rfl, HPRE.out, by show (fsum t == q.sum) = true; rw [HF.out]; exact HQ.out, ?_, ?_, ?_, ?_⟩
   · exact (((((HR.out.1.put 0 (str t)).put 1 (.int .i64 0)).put 2 (.int .i64 d)).put 3 (.int .i64 0)).far (by intro hh; dsimp only at hh; omega) _).far (by intro hh; dsimp only at hh; omega) _
   · refine Blk.far (Blk.put (cs := #[.bool false]) (Blk.far (Blk.far (Blk.far (Blk.far HR.out.2.1 ?_ _) ?_ _) ?_ _) ?_ _) 0 (.bool true)) ?_ _
     all_goals (intro hh; dsimp only at hh; omega)
   · refine Blk.put (cs := #[.bool false]) (Blk.far (Blk.far (Blk.far (Blk.far (Blk.far HR.out.2.2 ?_ _) ?_ _) ?_ _) ?_ _) ?_ _) 0 (.bool true)
     all_goals (intro hh; dsimp only at hh; omega)
   · have hb : Below w.heap.size w w5 := keep_below HB5.out (keep_below HB.out HD4.out)
     exact below_set (below_set (below_set (below_set (below_set (below_set hb _ _ _ (by omega)) _ _ _ (by omega)) _ _ _ (by omega)) _ _ _ (by omega)) _ _ _ (by omega)) _ _ _ (by omega)
 case done =>
  rintro D xs W hD hS ⟨hpre, hb⟩ hK
  have hfn : T.find? (fun x => fsum x.2 == q.sum) = none := find_none_of fun x hx => by
   rw [← hS] at hx
   obtain ⟨z, hz, rfl⟩ := List.mem_map.1 hx
   exact hpre z hz
  have HFN := Lib.hid hfn
  have HCE := Lib.hid (conE_any (HS4.out.below hb) (by have := HRL.out; omega))
  have R4 := HB4.out.2.2.2.1.below hb HB4.out.2.2.2.1.lt
  have R5 := HB4.out.2.2.2.2.1.below hb HB4.out.2.2.2.2.1.lt
  have R6 := HB4.out.2.2.2.2.2.below hb HB4.out.2.2.2.2.2.lt
  have HR := Lib.hid (And.intro R4 (And.intro R5 R6))
  have HK := Lib.hid hK
  have HB := Lib.hid hb
  have HDD := Lib.hid hD
  clear hpre hb hK hS hfn R4 R5 R6 hD
  go_wp2_with fail
  refine HCE.out.mono ?_
  rintro e w5 ⟨rfl, hb5⟩
  obtain ⟨E, hE⟩ : ∃ E, hasE R = E := ⟨_, rfl⟩
  rw [hE]
  have HE := Lib.hid hE
  have R4 := HR.out.1.below hb5 HR.out.1.lt
  have R5 := HR.out.2.1.below hb5 HR.out.2.1.lt
  have R6 := HR.out.2.2.below hb5 HR.out.2.2.lt
  have hK5 : w5.heap[D]? = some (.deferred (some [])) := (hb5.block D (Array.getElem?_eq_some_iff.1 HK.out).1).trans HK.out
  have z0 := R4.at_ (i := 0) (v := str []) rfl
  have z1 := R4.at_ (i := 1) (v := .int .i64 0) rfl
  have z2 := R4.at_ (i := 2) (v := .int .i64 0) rfl
  have z3 := R4.at_ (i := 3) (v := .int .i64 0) rfl
  have g0 := R4.fr 0
  have g1 := R4.fr 1
  have g2 := R4.fr 2
  have g3 := R4.fr 3
  have z5 := R5.at_ (i := 0) (v := .bool false) rfl
  have g5 := R5.fr 0
  have z6 := R6.at_ (i := 0) (v := .bool false) rfl
  have g6 := R6.fr 0
  have HR5 := Lib.hid (And.intro R4 (And.intro R5 R6))
  have HK5 := Lib.hid hK5
  have HB5 := Lib.hid (keep_below hb5 (keep_below HB.out HD4.out))
  clear R4 R5 R6 hb5 hK5 hE
  obtain ⟨w6, hw6⟩ : ∃ z, ((((((w5.setCell ⟨w.heap.size + 1 + 1 + 1, 0, none⟩ (str [])).setCell ⟨w.heap.size + 1 + 1 + 1, 1, none⟩ (.int .i64 0)).setCell ⟨w.heap.size + 1 + 1 + 1, 2, none⟩ (.int .i64 0)).setCell ⟨w.heap.size + 1 + 1 + 1, 3, none⟩ (.int .i64 0)).setCell ⟨w.heap.size + 1 + 1 + 1 + 1, 0, none⟩ (.bool false)).setCell ⟨w.heap.size + 1 + 1 + 1 + 1 + 1, 0, none⟩ (.bool (!E))) = z := ⟨_, rfl⟩
  have S4 : Blk w6 (w.heap.size + 1 + 1 + 1) 45 #[str [], .int .i64 0, .int .i64 0, .int .i64 0] := by
   rw [← hw6]
   exact (((((HR5.out.1.put 0 (str [])).put 1 (.int .i64 0)).put 2 (.int .i64 0)).put 3 (.int .i64 0)).far (by intro hh; dsimp only at hh; omega) _).far (by intro hh; dsimp only at hh; omega) _
  have S5 : Blk w6 (w.heap.size + 1 + 1 + 1 + 1) 4 #[.bool false] := by
   rw [← hw6]
   refine Blk.far (Blk.put (cs := #[.bool false]) (Blk.far (Blk.far (Blk.far (Blk.far HR5.out.2.1 ?_ _) ?_ _) ?_ _) ?_ _) 0 (.bool false)) ?_ _
   all_goals (intro hh; dsimp only at hh; omega)
  have S6 : Blk w6 (w.heap.size + 1 + 1 + 1 + 1 + 1) 4 #[.bool (!E)] := by
   rw [← hw6]
   refine Blk.put (cs := #[.bool false]) (Blk.far (Blk.far (Blk.far (Blk.far (Blk.far HR5.out.2.2 ?_ _) ?_ _) ?_ _) ?_ _) ?_ _) 0 (.bool (!E))
   all_goals (intro hh; dsimp only at hh; omega)
  have S7 : Below w.heap.size w w6 := by
   rw [← hw6]
   exact below_set (below_set (below_set (below_set (below_set (below_set HB5.out _ _ _ (by omega)) _ _ _ (by omega)) _ _ _ (by omega)) _ _ _ (by omega)) _ _ _ (by omega)) _ _ _ (by omega)
  have S8 : w6.heap[D]? = some (.deferred (some [])) := by
   rw [← hw6]
   exact (((((((KeepsOthers.setCell _ _ _).trans (KeepsOthers.setCell _ _ _)).trans (KeepsOthers.setCell _ _ _)).trans (KeepsOthers.setCell _ _ _)).trans (KeepsOthers.setCell _ _ _)).trans (KeepsOthers.setCell _ _ _))).same D _ HK5.out rfl
  have HS6 := Lib.hid (And.intro S4 (And.intro S5 (And.intro S6 (And.intro S7 S8))))
  have HW6 := Lib.hid hw6
  clear S4 S5 S6 S7 S8 hw6
  go_wp2_with fail
  rw [HW6.out]
  obtain ⟨S4, S5, S6, S7, S8⟩ := HS6.out
  refine ⟨by simp, .inl ⟨_, _, rfl, run_takeDeferred S8, ?_⟩⟩
  have hDD := HDD.out
  have hLT := HLT.out
  have T4 := (World.putObj_heap_other (w := w6) (o := Obj.deferred none) (show w.heap.size + 1 + 1 + 1 ≠ D by omega)).trans S4
  have T5 := (World.putObj_heap_other (w := w6) (o := Obj.deferred none) (show w.heap.size + 1 + 1 + 1 + 1 ≠ D by omega)).trans S5
  have T6 := (World.putObj_heap_other (w := w6) (o := Obj.deferred none) (show w.heap.size + 1 + 1 + 1 + 1 + 1 ≠ D by omega)).trans S6
  have e0 := Blk.at_ T4 (i := 0) (v := str []) rfl
  have e1 := Blk.at_ T4 (i := 1) (v := .int .i64 0) rfl
  have e2 := Blk.at_ T4 (i := 2) (v := .int .i64 (0 : Int)) rfl
  have e3 := Blk.at_ T4 (i := 3) (v := .int .i64 0) rfl
  have e4 := Blk.at_ T5 (i := 0) (v := .bool false) rfl
  have e5 := Blk.at_ T6 (i := 0) (v := .bool (!E)) rfl
  refine ⟨.tuple #[(.agg #[str [], .int .i64 0, .int .i64 0, .int .i64 0]), .bool false, .bool (!E)], by simp [results, Tryz.f35, go_sem, e0, e1, e2, e3, e4, e5], by rw [HFN.out]; first | rfl | (rw [HE.out]; rfl), S7.trans (belowK_b (w := w) (Nat.le_refl _) _ D _ _ (by omega) S8 rfl rfl)⟩
 case stop =>
  rintro D c pre W hD hS ⟨rfl, p, x, rfl, h1, h2, h3, h4, h5, h6⟩ hK
  have hfs : T.find? (fun x => fsum x.2 == q.sum) = some x.1 := by
   refine find_some_of (pre := p.map (·.1)) (fun y hy => ?_) h2 (by rw [List.map_append] at hS; exact hS)
   obtain ⟨z, hz, rfl⟩ := List.mem_map.1 hy
   exact h1 z hz
  have HFN := Lib.hid hfs
  have HR := Lib.hid (And.intro h3 (And.intro h4 (And.intro h5 h6)))
  have HK := Lib.hid hK
  have HDD := Lib.hid hD
  clear h1 h2 h3 h4 h5 h6 hK hS hfs hD
  refine wpIn_wide.2 ?_
  go_wp2_with fail
  obtain ⟨S4, S5, S6, S7⟩ := HR.out
  have S8 := HK.out
  refine ⟨by simp, .inl ⟨_, _, rfl, run_takeDeferred S8, ?_⟩⟩
  have hDD := HDD.out
  have hLT := HLT.out
  have T4 := (World.putObj_heap_other (w := W) (o := Obj.deferred none) (show w.heap.size + 1 + 1 + 1 ≠ D by omega)).trans S4
  have T5 := (World.putObj_heap_other (w := W) (o := Obj.deferred none) (show w.heap.size + 1 + 1 + 1 + 1 ≠ D by omega)).trans S5
  have T6 := (World.putObj_heap_other (w := W) (o := Obj.deferred none) (show w.heap.size + 1 + 1 + 1 + 1 + 1 ≠ D by omega)).trans S6
  have e0 := Blk.at_ T4 (i := 0) (v := str x.1.2) rfl
  have e1 := Blk.at_ T4 (i := 1) (v := .int .i64 0) rfl
  have e2 := Blk.at_ T4 (i := 2) (v := .int .i64 x.1.1) rfl
  have e3 := Blk.at_ T4 (i := 3) (v := .int .i64 0) rfl
  have e4 := Blk.at_ T5 (i := 0) (v := .bool true) rfl
  have e5 := Blk.at_ T6 (i := 0) (v := .bool true) rfl
  refine ⟨.tuple #[(.agg #[str x.1.2, .int .i64 0, .int .i64 x.1.1, .int .i64 0]), .bool true, .bool true], by simp [results, Tryz.f35, go_sem, e0, e1, e2, e3, e4, e5], by rw [HFN.out]; first | rfl | (rw [HE.out]; rfl), S7.trans (belowK_b (w := w) (Nat.le_refl _) _ D _ _ (by omega) S8 rfl rfl)⟩
end Go.Proofs.YtbhkbcpljakmjaaGreat

namespace Go.Proofs.YtbhkbcpljakmjaaGreat
set_option linter.unusedVariables false
set_option linter.unusedSimpArgs false
open Go.RowKit
set_option maxRecDepth 100000 in
set_option maxHeartbeats 2000000 in
theorem apart_any (A : Option Addr) (n c : Nat) (gs : List (Int × Int)) (secs ag aa bg ba size : Int) (w : World) (hg : GeoAt w A n gs) (hba : 0 ≤ ba) (hba1 : ba ≤ 100000) (haa : 0 ≤ aa) (haa1 : aa ≤ 100000) :
 Calls Tryz.prog 59 #[.agg #[.slice A n c, .int .i64 secs], .agg #[.int .i64 ag, .int .i64 aa], .agg #[.int .i64 bg, .int .i64 ba], .int .i64 size] w fun e w' => e = .returned (.bool (apB gs secs ag aa bg ba size)) ∧ Below w.heap.size w w' := by
 have hb0 : Below w.heap.size w (((w.alloc (Obj.cells #[Value.slice A n c, Value.int IntKind.i64 secs] 24)).alloc (Obj.cells #[Value.int IntKind.i64 ag, Value.int IntKind.i64 aa] 26)).alloc (Obj.cells #[Value.int IntKind.i64 bg, Value.int IntKind.i64 ba] 26)) :=
  (((Below.refl _ _).alloc (Nat.le_refl _) _).alloc (by simp) _).alloc (by simp; omega) _
 go_enter Tryz.func59, Tryz.ntmps59
 go_wp2_with fail
 obtain ⟨ht1, ht2⟩ := gTakes_bd gs secs ag size
 obtain ⟨ht3, ht4⟩ := gTakes_bd gs secs bg size
 obtain ⟨w3, hw3⟩ : ∃ w3 : World, w3 = (((w.alloc (Obj.cells #[Value.slice A n c, Value.int IntKind.i64 secs] 24)).alloc (Obj.cells #[Value.int IntKind.i64 ag, Value.int IntKind.i64 aa] 26)).alloc (Obj.cells #[Value.int IntKind.i64 bg, Value.int IntKind.i64 ba] 26)) := ⟨_, rfl⟩
 have m1 : w3.cell? ⟨w.heap.size, 0, none⟩ = some (.slice A n c) := by rw [hw3]; exact cell_alloc (cell_alloc (cell_new rfl rfl) _) _
 have m2 : w3.cell? ⟨w.heap.size, 1, none⟩ = some (.int .i64 secs) := by rw [hw3]; exact cell_alloc (cell_alloc (cell_new rfl rfl) _) _
 have m3 : w3.cell? ⟨w.heap.size + 1, 0, none⟩ = some (.int .i64 ag) := by rw [hw3]; exact cell_alloc (cell_new (by simp) rfl) _
 have m4 : w3.cell? ⟨w.heap.size + 1, 1, none⟩ = some (.int .i64 aa) := by rw [hw3]; exact cell_alloc (cell_new (by simp) rfl) _
 have m5 : w3.cell? ⟨w.heap.size + 2, 0, none⟩ = some (.int .i64 bg) := by rw [hw3]; exact cell_new (by simp) rfl
 have m6 : w3.cell? ⟨w.heap.size + 2, 1, none⟩ = some (.int .i64 ba) := by rw [hw3]; exact cell_new (by simp) rfl
 have hs3 : w.heap.size + 3 ≤ w3.heap.size := by rw [hw3]; simp
 rw [← hw3] at hb0 ⊢
 clear hw3
 have HT : Hid (∀ (g s : Int) W, Below w3.heap.size w3 W → Calls Tryz.prog 85 #[.agg #[.slice A n c, .int .i64 secs], .int .i64 g, .int .i64 s] W fun e w' => e = .returned (.int .i64 (gTakes gs secs g s)) ∧ Below W.heap.size W w') :=
  Lib.hid fun g s W hb => takes_any A n c gs secs g s W (hg.below (hb0.trans (hb.mono hb0.size)) (Nat.le_refl _))
 have w1' : IntKind.i64.wrap (aa + gTakes gs secs ag size) = aa + gTakes gs secs ag size := by rw [IntKind.wrap_i64]; omega
 have w2' : IntKind.i64.wrap (ba + gTakes gs secs bg size) = ba + gTakes gs secs bg size := by rw [IntKind.wrap_i64]; omega
 obtain ⟨C, hC, hC0, hCB, hCK, hCd⟩ := cls_below w3
 have f1 : ∀ W, C W → W.cell? ⟨w.heap.size, 0, none⟩ = some (.slice A n c) := fun W h => keep_cell (hCB W h) m1 (by omega)
 have f2 : ∀ W, C W → W.cell? ⟨w.heap.size, 1, none⟩ = some (.int .i64 secs) := fun W h => keep_cell (hCB W h) m2 (by omega)
 have f3 : ∀ W, C W → W.cell? ⟨w.heap.size + 1, 0, none⟩ = some (.int .i64 ag) := fun W h => keep_cell (hCB W h) m3 (by omega)
 have f4 : ∀ W, C W → W.cell? ⟨w.heap.size + 1, 1, none⟩ = some (.int .i64 aa) := fun W h => keep_cell (hCB W h) m4 (by omega)
 have f5 : ∀ W, C W → W.cell? ⟨w.heap.size + 2, 0, none⟩ = some (.int .i64 bg) := fun W h => keep_cell (hCB W h) m5 (by omega)
 have f6 : ∀ W, C W → W.cell? ⟨w.heap.size + 2, 1, none⟩ = some (.int .i64 ba) := fun W h => keep_cell (hCB W h) m6 (by omega)
 have HA : Hid (apB gs secs ag aa bg ba size = ((ag != bg) || (decide (aa + gTakes gs secs ag size ≤ ba) || decide (ba + gTakes gs secs bg size ≤ aa)))) := Lib.hid rfl
 clear m1 m2 m3 m4 m5 m6 hg ht1 ht2 ht3 ht4
 cases h1 : (ag != bg) with
 | true =>
  have hv : Hid (apB gs secs ag aa bg ba size = true) := by unfold Hid; rw [HA.out, h1]; rfl
  refine wp_region_cls C (by kernel_rfl) (by kernel_rfl) hC ?_
  repeat (first | go_big_quiet_skip | (go_big_quiet_want; go_big_quiet_op; first | go_big_quiet_on | (apply Exists.intro; refine ⟨fun W hW => ?_, ?_⟩; (focus ((first | exact rfl | exact ⟨rfl, rfl⟩ | (simp only [f1 W hW, f2 W hW, f3 W hW, f4 W hW, f5 W hW, f6 W hW, Result.andThen_ok]; first | done | exact ⟨trivial, rfl⟩ | exact rfl | exact ⟨rfl, rfl⟩) | (refine (HT.out _ _ W (hCB W hW)).mono ?_; rintro e w' ⟨rfl, hb⟩; exact ⟨rfl, hCK _ _ hW hb⟩)); done)); go_big_quiet_on)))
  refine wpQuiet_nil ?_
  intro w' hw'
  go_wp2_with fail
  go_ret
  exact ⟨ret_bool hv.out.symm, hb0.trans ((hCB w' hw').mono hb0.size)⟩
 | false =>
  cases h2 : decide (aa + gTakes gs secs ag size ≤ ba) with
  | true =>
   have hv : Hid (apB gs secs ag aa bg ba size = true) := by unfold Hid; rw [HA.out, h1, h2]; rfl
   refine wp_region_cls C (by kernel_rfl) (by kernel_rfl) hC ?_
   repeat (first | go_big_quiet_skip | (go_big_quiet_want; go_big_quiet_op; first | go_big_quiet_on | (apply Exists.intro; refine ⟨fun W hW => ?_, ?_⟩; (focus ((first | exact rfl | exact ⟨rfl, rfl⟩ | (simp only [f1 W hW, f2 W hW, f3 W hW, f4 W hW, f5 W hW, f6 W hW, Result.andThen_ok]; first | done | exact ⟨trivial, rfl⟩ | exact rfl | exact ⟨rfl, rfl⟩) | (refine (HT.out _ _ W (hCB W hW)).mono ?_; rintro e w' ⟨rfl, hb⟩; exact ⟨rfl, hCK _ _ hW hb⟩)); done)); go_big_quiet_on)))
   refine wpQuiet_nil ?_
   intro w' hw'
   go_wp2_with fail
   go_ret
   exact ⟨ret_bool hv.out.symm, hb0.trans ((hCB w' hw').mono hb0.size)⟩
  | false =>
   have hv : Hid (apB gs secs ag aa bg ba size = decide (ba + gTakes gs secs bg size ≤ aa)) := by unfold Hid; rw [HA.out, h1, h2]; rfl
   refine wp_region_cls C (by kernel_rfl) (by kernel_rfl) hC ?_
   repeat (first | go_big_quiet_skip | (go_big_quiet_want; go_big_quiet_op; first | go_big_quiet_on | (apply Exists.intro; refine ⟨fun W hW => ?_, ?_⟩; (focus ((first | exact rfl | exact ⟨rfl, rfl⟩ | (simp only [f1 W hW, f2 W hW, f3 W hW, f4 W hW, f5 W hW, f6 W hW, Result.andThen_ok]; first | done | exact ⟨trivial, rfl⟩ | exact rfl | exact ⟨rfl, rfl⟩) | (refine (HT.out _ _ W (hCB W hW)).mono ?_; rintro e w' ⟨rfl, hb⟩; exact ⟨rfl, hCK _ _ hW hb⟩)); done)); go_big_quiet_on)))
   refine wpQuiet_nil ?_
   intro w' hw'
   go_wp2_with fail
   go_ret
   exact ⟨ret_bool hv.out.symm, hb0.trans ((hCB w' hw').mono hb0.size)⟩
set_option maxRecDepth 100000 in
set_option maxHeartbeats 2000000 in
theorem pright_any (A : Option Addr) (n c : Nat) (gs : List (Int × Int)) (secs : Int) (p : PtrD) (w : World) (hg : GeoAt w A n gs) :
 Calls Tryz.prog 30 #[.agg #[.slice A n c, .int .i64 secs], .agg p.cells] w fun e w' => e = .returned (.bool (rightB gs secs p)) ∧ Below w.heap.size w w' := by
 have hb0 : Below w.heap.size w ((w.alloc (Obj.cells #[Value.slice A n c, Value.int IntKind.i64 secs] 24)).alloc (.cells p.cells 31)) :=
  ((Below.refl _ _).alloc (Nat.le_refl _) _).alloc (by simp) _
 have HP := Lib.hid (PtrAt.new (w.alloc (Obj.cells #[Value.slice A n c, Value.int IntKind.i64 secs] 24)) p 31)
 rw [World.size_alloc] at HP
 have h := HP.out
 obtain ⟨h0, h1, h2, h3, h4, h5, h6, h7, h8, h9, ha, hc⟩ := h
 simp only [Nat.zero_add] at h1 h2 h3 h4 h5 h6 h7 h8 h9 ha hc
 have hs0 : w.heap.size + 2 ≤ ((w.alloc (Obj.cells #[Value.slice A n c, Value.int IntKind.i64 secs] 24)).alloc (.cells p.cells 31)).heap.size := by simp
 have k1 : ((w.alloc (Obj.cells #[Value.slice A n c, Value.int IntKind.i64 secs] 24)).alloc (.cells p.cells 31)).cell? ⟨w.heap.size, 0, none⟩ = some (.slice A n c) := cell_alloc (cell_new rfl rfl) _
 have k2 : ((w.alloc (Obj.cells #[Value.slice A n c, Value.int IntKind.i64 secs] 24)).alloc (.cells p.cells 31)).cell? ⟨w.heap.size, 1, none⟩ = some (.int .i64 secs) := cell_alloc (cell_new rfl rfl) _
 by_cases hgood : (0 ≤ p.level ∧ p.level ≤ 3) ∧ (1 ≤ p.birth ∧ p.birth ≤ 4294967295)
 · obtain ⟨⟨g1, g2⟩, g3, g4⟩ := hgood
   have HR : Hid (rightB gs secs p = (cMay gs secs p.ag p.aa p.size && (if p.two then cMay gs secs p.bg p.ba p.size && apB gs secs p.ag p.aa p.bg p.ba p.size else p.bg == 0 && p.ba == 0))) := by
    unfold Hid rightB; rw [decide_eq_true g1, decide_eq_true g2, decide_eq_true g3, decide_eq_true g4]; rfl
   go_enter Tryz.func30, Tryz.ntmps30
   go_wp2_with fail
   refine (of_any A n c gs secs p.ag p.aa p.size _ (hg.below hb0 (Nat.le_refl _))).mono ?_
   rintro e w1 ⟨v1, rfl, _, hb1⟩
   have hP1 := HP.out.keep hb1 (by omega)
   have hb2 := hb0.trans (hb1.mono hb0.size)
   have hs1 := keep_size hb1 hs0
   have l1 := keep_cell hb1 k1 (by omega)
   have l2 := keep_cell hb1 k2 (by omega)
   clear h0 h1 h2 h3 h4 h5 h6 h7 h8 h9 ha hc hb1 k1 k2
   by_cases hp : cMay gs secs p.ag p.aa p.size = true
   · have e1 : ofErr gs secs p.ag p.aa p.size = 0 := by unfold ofErr; rw [if_pos hp]
     have hbd := cMay_bd hp
     rw [e1]
     rw [hp, Bool.true_and] at HR
     clear hp e1
     have HP1 := Lib.hid hP1
     obtain ⟨h0, h1, h2, h3, h4, h5, h6, h7, h8, h9, ha, hc⟩ := hP1
     simp only [Nat.zero_add] at h1 h2 h3 h4 h5 h6 h7 h8 h9 ha hc
     cases ht : p.two with
     | false =>
      rw [ht] at h4 HR
      rw [if_neg (by simp)] at HR
      have he := fun W => eql_place p.bg p.ba 0 0 W
      go_wp2_with fail
      go_ret
      exact ⟨ret_bool HR.out.symm, hb2⟩
     | true =>
      rw [ht] at h4 HR
      rw [if_pos rfl] at HR
      go_wp2_with fail
      refine (of_any A n c gs secs p.bg p.ba p.size _ (hg.below hb2 (Nat.le_refl _))).mono ?_
      rintro e w2 ⟨v2, rfl, _, hb3⟩
      have hP2 := HP1.out.keep hb3 (by omega)
      have hb4 := hb2.trans (hb3.mono hb2.size)
      have hs2 := keep_size hb3 hs1
      have n1 := keep_cell hb3 l1 (by omega)
      have n2 := keep_cell hb3 l2 (by omega)
      clear h0 h1 h2 h3 h4 h5 h6 h7 h8 h9 ha hc hb3 l1 l2
      by_cases hq : cMay gs secs p.bg p.ba p.size = true
      · have e1 : ofErr gs secs p.bg p.ba p.size = 0 := by unfold ofErr; rw [if_pos hq]
        have hbq := cMay_bd hq
        rw [e1]
        rw [hq, Bool.true_and] at HR
        clear hq e1
        obtain ⟨h0, h1, h2, h3, h4, h5, h6, h7, h8, h9, ha, hc⟩ := hP2
        simp only [Nat.zero_add] at h1 h2 h3 h4 h5 h6 h7 h8 h9 ha hc
        rw [ht] at h4
        go_wp2_with fail
        refine (apart_any A n c gs secs p.ag p.aa p.bg p.ba p.size _ (hg.below hb4 (Nat.le_refl _)) (by omega) (by omega) (by omega) (by omega)).mono ?_
        rintro e w3 ⟨rfl, hb5⟩
        go_wp2_with fail
        go_ret
        exact ⟨ret_bool HR.out.symm, hb4.trans (hb5.mono hb4.size)⟩
      · have e1 : ofErr gs secs p.bg p.ba p.size = 1 := by unfold ofErr; rw [if_neg hq]
        have hq' : cMay gs secs p.bg p.ba p.size = false := by simpa using hq
        rw [e1]
        rw [hq', Bool.false_and] at HR
        go_wp2_with fail
        go_ret
        exact ⟨ret_bool HR.out.symm, hb4⟩
   · have e1 : ofErr gs secs p.ag p.aa p.size = 1 := by unfold ofErr; rw [if_neg hp]
     have hp' : cMay gs secs p.ag p.aa p.size = false := by simpa using hp
     rw [e1]
     rw [hp', Bool.false_and] at HR
     go_wp2_with fail
     go_ret
     exact ⟨ret_bool HR.out.symm, hb2⟩
 · have HR : Hid (rightB gs secs p = false) := by
    unfold Hid
    cases hr : rightB gs secs p with
    | false => rfl
    | true =>
     simp only [rightB, Bool.and_eq_true, decide_eq_true_eq] at hr
     exact absurd ⟨⟨hr.1.1.1.1.1, hr.1.1.1.1.2⟩, hr.1.1.1.2, hr.1.1.2⟩ hgood
   go_enter Tryz.func30, Tryz.ntmps30
   go_wp2_with fail
   all_goals first | (exfalso; omega) | (go_ret; exact ⟨ret_bool HR.out.symm, hb0⟩)
end Go.Proofs.YtbhkbcpljakmjaaGreat

namespace Go.Proofs.YtbhkbcpljakmjaaGreat
set_option linter.unusedVariables false
set_option linter.unusedSimpArgs false
open Go.RowKit
end Go.Proofs.YtbhkbcpljakmjaaGreat

namespace Go.Proofs.YtbhkbcpljakmjaaGreat
set_option linter.unusedVariables false
set_option linter.unusedSimpArgs false
open Go.RowKit
set_option maxHeartbeats 2000000 in
theorem refFirst_any (A : Option Addr) (n c : Nat) (gs : List (Int × Int)) (secs : Int) (k : Nat) (w : World) (hg : GeoAt w A n gs) (hh : gHas gs secs k = true) :
 Calls Tryz.prog 15 #[.agg #[.slice A n c, .int .i64 secs], .int .i64 k] w fun e w' => e = .returned (.int .i64 (gFirst gs secs k)) ∧ Below w.heap.size w w' := by
 obtain ⟨k', x, hk', hk, hl4, hs1, hs2, hx, hgx, ho⟩ := gHas_true hh
 obtain rfl : k' = k := by omega
 have hr : gRight gs secs = true := by simp only [gHas, Bool.and_eq_true] at hh; exact hh.1.1
 have hF : Hid (gFirst gs secs k' = gSum (gs.take k')) := by unfold Hid gFirst; rw [hh]; rfl
 have HB := Lib.hid (sum_take_bd hr)
 obtain ⟨b, off, rfl, hgs⟩ := hg.2.2 (by have := hg.1; omega)
 have Hl := Lib.hid hg.1
 have hkn : (k' : Int) < n := by have := hg.1; omega
 have hn2 := hg.2.1
 clear hh hx hgx ho hr hk' hg
 have hb1 : Below w.heap.size w (w.alloc (Obj.cells #[Value.slice (some ⟨b, off, none⟩) n c, Value.int IntKind.i64 secs] 24)) := (Below.refl _ _).alloc (Nat.le_refl _) _
 go_enter Tryz.func15, Tryz.ntmps15
 go_wp2
 have k1 : (w.alloc (Obj.cells #[Value.slice (some ⟨b, off, none⟩) n c, Value.int IntKind.i64 secs] 24)).cell? ⟨w.heap.size, 0, none⟩ = some (.slice (some ⟨b, off, none⟩) n c) := cell_new rfl rfl
 have hs1 : w.heap.size < (w.alloc (Obj.cells #[Value.slice (some ⟨b, off, none⟩) n c, Value.int IntKind.i64 secs] 24)).heap.size := by simp
 generalize w.alloc (Obj.cells #[Value.slice (some ⟨b, off, none⟩) n c, Value.int IntKind.i64 secs] 24) = w1 at *
 go_loopw [5, 6] (fun s t wr => ∃ j : Nat, j ≤ k' ∧ t = .int .i64 j ∧ s = .int .i64 (gSum (gs.take j)) ∧ Below w1.heap.size w1 wr) (fun _ t _ => k' - (RowKit.intOf t).toNat)
 case atStart => exact ⟨0, Nat.zero_le _, rfl, rfl, Below.refl _ _⟩
 case round =>
  obtain ⟨j, hj, rfl, rfl, hb⟩ := hrel
  have k2 := keep_cell hb k1 hs1
  by_cases hlt : j < k'
  · obtain ⟨x, hx⟩ : ∃ x, gs[j]? = some x := ⟨_, List.getElem?_eq_getElem (by have := Hl.out; omega)⟩
    obtain ⟨hc1, hc2⟩ := (hgs.below (hb1.trans (hb.mono hb1.size)) (Nat.le_refl _)).2 j x hx
    have hs := Lib.hid (gSum_take hx)
    have hB1 := HB.out j
    have hB2 := HB.out (j + 1)
    rw [hs.out] at hB2
    have hj0 : (0 : Int) ≤ j := by omega
    have hj1 : (j : Int) < n := by omega
    clear hx
    go_wp2
    go_roundw
    case rel => exact ⟨j + 1, by omega, by go_num, by rw [hs.out], hb⟩
    case measure => simp [RowKit.intOf]; omega
  · obtain rfl : j = k' := by omega
    go_wp2
    go_ret
    exact ⟨ret_int hF.out.symm, hb1.trans (hb.mono hb1.size)⟩
end Go.Proofs.YtbhkbcpljakmjaaGreat
