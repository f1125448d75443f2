/-
  Contracts of package cols, fifth part: Of.
  A block as columns, as plain words. No program stands here.
  Contracts of package code: row.
  Contracts of package code: Encode.
  A pool's devices in memory.
  Contracts of package vdev: here, Right, Here.
-/
import Derived.Test.YtlpbbjjibnbooaaGreatDoorJ05
import Derived.Deep.DeepCutAuto
import Derived.Test.YtlpbbjjibnbooaaGreatDoorJ04
namespace Go.Proofs.YtlpbbjjibnbooaaGreatDoor
open Go.RowKit
set_option linter.unusedVariables false

theorem keep_realloc {W w : World} {o o' : Obj} (h : Below w.heap.size w (W.alloc o)) (hB : w.heap.size + 2 ≤ (W.alloc o).heap.size) : Below w.heap.size w (W.alloc o') :=
  ⟨h.os, h.tape, h.output, by simp at hB ⊢; omega, fun k hk => by
    have h1 := h.block k hk
    have hk' : k < W.heap.size := by simp at hB; omega
    rw [Below.heap_alloc W o k hk'] at h1
    rw [Below.heap_alloc W o' k hk']
    exact h1⟩

theorem far2 {W : World} {g b k : Nat} {v x y : Value} (h : W.cell? ⟨b, k, none⟩ = some v) (hb : b ≠ g) : ((W.setCell ⟨g, 0, none⟩ x).setCell ⟨g, 1, none⟩ y).cell? ⟨b, k, none⟩ = some v := by
  rw [World.cell?_setCell_other _ _ _ _ (fun e => hb (by injection e with e; exact e.symm)), World.cell?_setCell_other _ _ _ _ (fun e => hb (by injection e with e; exact e.symm))]
  exact h
theorem own_mono {w : World} {base base' : Nat} {e : TypeId} {size : Nat} {v : Value} {n : Nat} {xs : List Value} (h : w.ownsRow base e size v n xs) (hb : base' ≤ base) : w.ownsRow base' e size v n xs :=
  ⟨h.1, by
    rcases h.2 with h | ⟨g, cap, cur, h1, h2, h3⟩
    · exact .inl h
    · exact .inr ⟨g, cap, cur, h1, by omega, h3⟩⟩
theorem set2 {W : World} {g : Nat} {a b x y : Value} (h0 : W.cell? ⟨g, 0, none⟩ = some a) (h1 : W.cell? ⟨g, 1, none⟩ = some b) :
    ((W.setCell ⟨g, 0, none⟩ x).setCell ⟨g, 1, none⟩ y).cell? ⟨g, 0, none⟩ = some x ∧ ((W.setCell ⟨g, 0, none⟩ x).setCell ⟨g, 1, none⟩ y).cell? ⟨g, 1, none⟩ = some y := by
  constructor
  · rw [World.cell?_setCell_other _ _ _ _ (by simp)]
    exact World.cell?_setCell_same _ _ _ h0
  · exact World.cell?_setCell_same _ _ _ ((World.cell?_setCell_other _ _ _ _ (by simp)).trans h1)
theorem ret2i {k : IntKind} {v : Value} {a b : Int} (h : a = b) : Ending.returned (.tuple #[v, .int k a]) = .returned (.tuple #[v, .int k b]) := by rw [h]
theorem recell {W : World} {o o2 : Obj} {b k : Nat} {v : Value} (h : (W.alloc o).cell? ⟨b, k, none⟩ = some v) (hb : b < W.heap.size) : (W.alloc o2).cell? ⟨b, k, none⟩ = some v := by
  rw [World.cell?_alloc_lt W o2 _ hb, ← World.cell?_alloc_lt W o _ hb]; exact h

theorem cMay_true {gs : List (Int × Int)} {secs pg pa size : Int} (h : cMay gs secs pg pa size = true) :
    gHas gs secs pg = true ∧ 1 ≤ size ∧ size ≤ 4 ∧ 0 ≤ pa ∧ pa ≤ gSectors gs secs pg - gTakes gs secs pg size ∧ 0 < gTakes gs secs pg size := by
  simp only [cMay, Bool.and_eq_true, decide_eq_true_eq] at h
  obtain ⟨h1, h2, h3⟩ := h
  have ht := h1
  unfold gTakes at ht
  split at ht
  · next hc =>
    simp only [Bool.and_eq_true, decide_eq_true_eq] at hc
    exact ⟨hc.1.1, hc.1.2, hc.2, h2, h3, h1⟩
  · omega

def ofList (gs : List (Int × Int)) (secs pg pa size : Int) : List Col := if cMay gs secs pg pa size then colsOf gs secs pg pa size else []
def ofErr (gs : List (Int × Int)) (secs pg pa size : Int) : Int := if cMay gs secs pg pa size then 0 else 1

set_option maxHeartbeats 1600000 in
theorem of_any (A : Option Addr) (n c : Nat) (gs : List (Int × Int)) (secs pg pa size : Int) (w : World) (hg : GeoAt w A n gs) :
    Calls Tryz.prog 107 #[.agg #[.slice A n c, .int .i64 secs], .agg #[.int .i64 pg, .int .i64 pa], .int .i64 size] w fun e w' =>
      ∃ v, e = .returned (.tuple #[v, .int .i64 (ofErr gs secs pg pa size)]) ∧
        w'.ownsRow w.heap.size 193 4 v (ofList gs secs pg pa size).length (colsCells (ofList gs secs pg pa size)) ∧ Below w.heap.size w w' := by
  have hb0 : Below w.heap.size w ((w.alloc (Obj.cells #[Value.slice A n c, Value.int IntKind.i64 secs] 24)).alloc (Obj.cells #[Value.int IntKind.i64 pg, Value.int IntKind.i64 pa] 26)) :=
    ((Below.refl _ _).alloc (Nat.le_refl _) _).alloc (by simp) _
  have H := Lib.hid (may_any A n c gs secs pg pa size _ (hg.below hb0 (Nat.le_refl _)))
  by_cases hh : cMay gs secs pg pa size = true
  · have hl : Hid (ofList gs secs pg pa size = colsOf gs secs pg pa size ∧ ofErr gs secs pg pa size = 0) := by unfold Hid ofList ofErr; rw [hh]; exact ⟨rfl, rfl⟩
    obtain ⟨hhas, hz1, hz2, hp1, hp2, _⟩ := cMay_true hh
    have hS := gSectors_bd gs secs pg
    have hT := gTakes_bd gs secs pg size
    have hp3 : pa ≤ 100000 := by omega
    have H2 : Hid (∀ w1, Below w.heap.size w w1 → Calls Tryz.prog 128 #[.agg #[.slice A n c, .int .i64 secs], .int .i64 pg] w1 fun e w' => e = .returned (.int .i64 (gFirst gs secs pg)) ∧ Below w1.heap.size w1 w') :=
      Lib.hid fun w1 hb => first_any A n c gs secs pg w1 (hg.below hb (Nat.le_refl _))
    have hfirst : Hid (0 ≤ gFirst gs secs pg ∧ gFirst gs secs pg ≤ 100) := by
      unfold Hid gFirst; rw [hhas]
      have hr : gRight gs secs = true := by simp only [gHas, Bool.and_eq_true] at hhas; exact hhas.1.1
      have := sum_take_bd hr pg.toNat
      simp only [if_true]; omega
    have HC : Hid (colsOf gs secs pg pa size = if (grAt gs pg).1 == 0 then mirror (gFirst gs secs pg) pa (grAt gs pg).2.toNat size.toNat else parTo (gFirst gs secs pg) (grAt gs pg).2 pa size.toNat) := Lib.hid rfl
    obtain ⟨k, x, rfl, hk, hl4, hs1, hs2, hx, hgx, ho⟩ := gHas_true hhas
    have ho' := gOne_true ho
    obtain ⟨b, off, rfl, hgs⟩ := hg.2.2 (by have := hg.1; omega)
    have hkn : (k : Int) < n := by have := hg.1; omega
    have HX := Lib.hid hx
    have HH := Lib.hid hh
    obtain ⟨kd, wd⟩ := x
    rw [hgx] at HC
    clear hx hgx hh hg hhas hS hT hp2 ho
    generalize gFirst gs secs k = F at *
    go_enter Tryz.func107, Tryz.ntmps107
    go_wp2_with fail
    refine H.out.mono ?_
    rintro e w1 ⟨rfl, hb1⟩
    have hb2 := hb0.trans (hb1.mono (by simp; omega))
    obtain ⟨hc, hf⟩ := bcell hb1
    have k1 : w1.cell? ⟨w.heap.size, 0, none⟩ = some (.slice (some ⟨b, off, none⟩) n c) := by rw [hc _ _ (by simp; omega)]; simp
    have k2 : w1.cell? ⟨w.heap.size, 1, none⟩ = some (.int .i64 secs) := by rw [hc _ _ (by simp; omega)]; simp
    have k3 : w1.cell? ⟨w.heap.size + 1, 0, none⟩ = some (.int .i64 k) := by rw [hc _ _ (by simp)]; simp
    have k4 : w1.cell? ⟨w.heap.size + 1, 1, none⟩ = some (.int .i64 pa) := by rw [hc _ _ (by simp)]; simp
    obtain ⟨k5, k6⟩ := (hgs.below hb2 (Nat.le_refl _)).2 k _ HX.out
    have hlt := hgs.1
    have hsz : w.heap.size + 2 ≤ w1.heap.size := by have := hb1.size; simp at this; omega
    clear hc hf hb1 hb0 H
    have hh := HH.out
    go_wp2_with fail
    clear hh
    go_cut [8, 9] (fun s8 s9 wx => ∃ g : Nat, s8 = .pointer (some ⟨g, 0, none⟩) ∧ s9 = .int .i64 F ∧ wx.cell? ⟨g, 0, none⟩ = some (.int .i64 kd) ∧ wx.cell? ⟨g, 1, none⟩ = some (.int .i64 wd) ∧ wx.cell? ⟨w.heap.size + 1, 1, none⟩ = some (.int .i64 pa) ∧ Below w.heap.size w wx)
    case first =>
      go_region_held3 (fun W => W.cell? ⟨w.heap.size, 0, none⟩ = some (.slice (some ⟨b, off, none⟩) n c) ∧ W.cell? ⟨w.heap.size, 1, none⟩ = some (.int .i64 secs) ∧ W.cell? ⟨w.heap.size + 1, 0, none⟩ = some (.int .i64 k) ∧
          W.cell? ⟨w.heap.size + 1, 1, none⟩ = some (.int .i64 pa) ∧ W.cell? ⟨b, off + k * 2, none⟩ = some (.int .i64 kd) ∧ W.cell? ⟨b, off + k * 2 + 1, none⟩ = some (.int .i64 wd) ∧ w.heap.size + 2 ≤ W.heap.size ∧ Below w.heap.size w W)
        (first
          | exact keep_realloc (‹_ ∧ _ ∧ _ ∧ _ ∧ _ ∧ _ ∧ _ ∧ Below w.heap.size w _›).2.2.2.2.2.2.2 (‹_ ∧ _ ∧ _ ∧ _ ∧ _ ∧ _ ∧ _ ∧ Below w.heap.size w _›).2.2.2.2.2.2.1
          | exact Below.setCell (p := ⟨w1.heap.size, 1, none⟩) (Below.setCell (p := ⟨w1.heap.size, 0, none⟩) (‹_ ∧ _ ∧ _ ∧ _ ∧ _ ∧ _ ∧ _ ∧ Below w.heap.size w _›).2.2.2.2.2.2.2 (Nat.le_trans (Nat.le_add_right _ 2) hsz) _) (Nat.le_trans (Nat.le_add_right _ 2) hsz) _
          | exact keep_alloc (‹_ ∧ _ ∧ _ ∧ _ ∧ _ ∧ _ ∧ _ ∧ Below w.heap.size w _›).2.2.2.2.2.2.2 _
          | exact Below.setCell (keep_alloc (‹_ ∧ _ ∧ _ ∧ _ ∧ _ ∧ _ ∧ _ ∧ Below w.heap.size w _›).2.2.2.2.2.2.2 _) (by first | exact (‹_ ∧ _ ∧ _ ∧ _ ∧ _ ∧ _ ∧ _ ∧ Below w.heap.size w _›).2.2.2.2.2.2.2.size | (simp; omega)) _
          | (refine ⟨?_, ?_, ?_, ?_, ?_, ?_, ?_, ?_⟩ <;> first | assumption | exact hb2.drew | exact keep_cell (by assumption) (by assumption) (by omega) | exact keep_below (by assumption) (by assumption) | exact keep_size (by assumption) (by assumption))
          | (obtain ⟨t1, t2, t3, t4, t5, t6, t7, t8⟩ := ‹_ ∧ _ ∧ _ ∧ _ ∧ _ ∧ _ ∧ _ ∧ Below w.heap.size w _›
             refine ⟨?_, ?_, ?_, ?_, ?_, ?_, ?_, ?_⟩
             all_goals first | exact t8.alloc t8.size _ | exact (t8.setCell (p := ⟨w1.heap.size, 0, none⟩) (Nat.le_trans (Nat.le_add_right _ 2) hsz) _).setCell (p := ⟨w1.heap.size, 1, none⟩) (Nat.le_trans (Nat.le_add_right _ 2) hsz) _ | exact t8.setCell (by omega) _ | exact keep_realloc t8 t7 | exact far2 (by assumption) (by omega) | exact Nat.le_trans t7 (by simp [World.setCell]) | exact recell (by assumption) (by omega) | exact Nat.le_trans t7 (by simp) | (go_keep; done) | (simp; omega)))
        (first | (go_at_call 128; obtain ⟨s1, s2, s3, s4, s5, s6, s7, s8⟩ := ‹_ ∧ _ ∧ _ ∧ _ ∧ _ ∧ _ ∧ _ ∧ Below w.heap.size w _›; refine (H2.out _ s8).mono ?_; rintro e w2 ⟨rfl, hb3⟩; have h9 := Nat.le_trans s7 hb3.size; have hq1 := fun h => hb3.cell (p := ⟨w1.heap.size, 0, none⟩) h; have hq2 := fun h => hb3.cell (p := ⟨w1.heap.size, 1, none⟩) h; have hq3 := fun h => hb3.frozen (p := ⟨w1.heap.size, 0, none⟩) h; have hq4 := fun h => hb3.frozen (p := ⟨w1.heap.size, 1, none⟩) h; dsimp only at hq1 hq2 hq3 hq4))

      all_goals
        obtain ⟨t1, t2, t3, t4, t5, t6, t7, t8⟩ := ‹_ ∧ _ ∧ _ ∧ _ ∧ _ ∧ _ ∧ _ ∧ Below w.heap.size w _›
        go_wp2_with fail
        go_meet
        first
          | exact ⟨w2.heap.size, rfl, rfl, by simp, by simp, t4, t8⟩
          | (have u1 : w2.cell? ⟨w1.heap.size, 0, none⟩ = some (.int .i64 0) := (hq1 (by simp)).trans (by simp)
             have u2 : w2.cell? ⟨w1.heap.size, 1, none⟩ = some (.int .i64 0) := (hq2 (by simp)).trans (by simp)
             exact ⟨w1.heap.size, rfl, rfl, (set2 u1 u2).1, (set2 u1 u2).2, t4, t8⟩)
    case rest =>
      obtain ⟨g, rfl, rfl, g1, g2, g3, g4⟩ := hcut
      obtain ⟨hF1, hF2⟩ := hfirst.out
      obtain ⟨sz, rfl⟩ := Int.eq_ofNat_of_zero_le (show 0 ≤ size by omega)
      have hsz4 : sz ≤ 4 := by omega
      rcases ho' with ⟨e, hw1, hw2⟩ | ⟨e, hw1, hw2⟩
      · subst e
        obtain ⟨wn, rfl⟩ := Int.eq_ofNat_of_zero_le (show 0 ≤ wd by omega)
        go_wp2_with fail
        refine (mirror_any F pa wn sz _ hF1 hF2 hp1 hp3 (by omega) hsz4).mono ?_
        rintro e w3 ⟨v, rfl, hown, hb5⟩
        go_wp2_with fail
        go_ret2
        refine ⟨v, ret2i hl.out.2.symm, ?_, g4.trans (hb5.mono g4.size)⟩
        rw [hl.out.1, HC.out]
        exact own_mono hown g4.size
      · subst e
        go_wp2_with fail
        refine (parity_any F wd pa sz _ hF1 hF2 hp1 hp3 hw1 hw2 hsz4).mono ?_
        rintro e w3 ⟨v, rfl, hown, hb5⟩
        go_wp2_with fail
        go_ret2
        refine ⟨v, ret2i hl.out.2.symm, ?_, g4.trans (hb5.mono g4.size)⟩
        rw [hl.out.1, HC.out]
        exact own_mono hown g4.size
  · have hh' : cMay gs secs pg pa size = false := by simpa using hh
    have hl : Hid (ofList gs secs pg pa size = [] ∧ ofErr gs secs pg pa size = 1) := by unfold Hid ofList ofErr; rw [hh']; exact ⟨rfl, rfl⟩
    have HH := Lib.hid hh'
    clear hh hh' hg
    go_enter Tryz.func107, Tryz.ntmps107
    go_wp2_with fail
    refine H.out.mono ?_
    rintro e w1 ⟨rfl, hb1⟩
    have hb2 := hb0.trans (hb1.mono (by simp; omega))
    have hh := HH.out
    go_wp2_with fail
    go_ret2
    refine ⟨_, ret2i hl.out.2.symm, ?_, hb2⟩
    rw [hl.out.1]
    exact World.ownsRow_nil _ _ _ _
end Go.Proofs.YtlpbbjjibnbooaaGreatDoor

namespace Go.Proofs.YtlpbbjjibnbooaaGreatDoor
set_option linter.unusedVariables false
set_option linter.unusedSimpArgs false

end Go.Proofs.YtlpbbjjibnbooaaGreatDoor

namespace Go.Proofs.YtlpbbjjibnbooaaGreatDoor
set_option linter.unusedVariables false
set_option linter.unusedSimpArgs false
open Go.RowKit

theorem sets_size' {g : Nat} : ∀ (vs : List Value) (o : Nat) (w : World), (w.setCells g o vs).heap.size = w.heap.size
  | [], _, _ => rfl
  | v :: r, o, w => by rw [World.setCells, sets_size' r]; simp [World.setCell]
end Go.Proofs.YtlpbbjjibnbooaaGreatDoor

namespace Go.Proofs.YtlpbbjjibnbooaaGreatDoor
set_option linter.unusedVariables false
set_option linter.unusedSimpArgs false
open Go.RowKit

end Go.Proofs.YtlpbbjjibnbooaaGreatDoor

namespace Go.Proofs.YtlpbbjjibnbooaaGreatDoor
set_option linter.unusedVariables false
set_option linter.unusedSimpArgs false
open Go.RowKit

/-- What stays of a pool's devices: the measure, and where all lies. -/
structure VX where
  gb : Nat
  m : Nat
  cc : Nat
  gs : List (Int × Int)
  secs : Nat
  lb : Nat
  lc : Nat
  ab : Nat
  bd : List Nat
abbrev VX.val (x : VX) : Value := .agg #[.slice (some ⟨x.gb, 0, none⟩) x.m x.cc, .int .i64 x.secs, .slice (some ⟨x.lb, 0, none⟩) x.bd.length x.lc, .slice (some ⟨x.ab, 0, none⟩) x.bd.length x.bd.length]
abbrev VX.cells (x : VX) : Array Value := #[.slice (some ⟨x.gb, 0, none⟩) x.m x.cc, .int .i64 x.secs, .slice (some ⟨x.lb, 0, none⟩) x.bd.length x.lc, .slice (some ⟨x.ab, 0, none⟩) x.bd.length x.bd.length]
/-- The devices of S, each in blocks of its own; the blocks of U are none of theirs. -/
structure VdIn (w : World) (S : Nat → Nat → Prop) (U : Nat → Prop) (x : VX) (aw : List Bool) (ds : List DevD) : Prop where
  geo : GeoAt w (some ⟨x.gb, 0, none⟩) x.m x.gs
  right : gRight x.gs x.secs = true
  nd : gSum x.gs = x.bd.length
  n1 : aw.length = x.bd.length
  n2 : ds.length = x.bd.length
  row : ∀ i b, x.bd[i]? = some b → w.cell? ⟨x.lb, i, none⟩ = some (.pointer (some ⟨b, 0, none⟩))
  box : Blk w x.ab 4 (aw.map Value.bool).toArray
  dev : ∀ i b d, x.bd[i]? = some b → ds[i]? = some d → DevAt w (S i) b d
  sz : ∀ d ∈ ds, d.med.length = x.secs
  lt : ∀ i b, S i b → b < w.heap.size
  fx : ∀ i b, S i b → ¬ U b
  apart : ∀ i j b, S i b → S j b → i = j
  us : ∀ b, U b → b < w.heap.size
  ug : U x.gb
  ul : U x.lb
  ua : U x.ab
  ne : x.gb ≠ x.ab ∧ x.lb ≠ x.ab
theorem cell_same' {w w' : World} {b o : Nat} (h : w'.heap[b]? = w.heap[b]?) : w'.cell? ⟨b, o, none⟩ = w.cell? ⟨b, o, none⟩ := by simp only [World.cell?, h]
theorem sets_far' {w : World} {b g : Nat} (hne : b ≠ g) : ∀ (vs : List Value) (o : Nat) (w : World), (w.setCells g o vs).heap[b]? = w.heap[b]?
  | [], _, _ => rfl
  | v :: r, o, w => by
    rw [World.setCells, sets_far' (w := w) hne r]
    exact Below.heap_setCell w _ _ b hne
theorem GeoAt.same {w w' : World} {g m : Nat} {gs : List (Int × Int)} (h : GeoAt w (some ⟨g, 0, none⟩) m gs) (hs : w.heap.size ≤ w'.heap.size) (hb : w'.heap[g]? = w.heap[g]?) : GeoAt w' (some ⟨g, 0, none⟩) m gs := by
  refine ⟨h.1, h.2.1, fun hn => ?_⟩
  obtain ⟨b, off, e, hg⟩ := h.2.2 hn
  cases e
  exact ⟨g, 0, rfl, Nat.lt_of_lt_of_le hg.1 hs, fun i x hx => ⟨(cell_same' hb).trans (hg.2 i x hx).1, (cell_same' hb).trans (hg.2 i x hx).2⟩⟩
section
variable {w w' : World} {S : Nat → Nat → Prop} {U V : Nat → Prop} {x : VX} {aw : List Bool} {ds : List DevD}
theorem VdIn.same3 (h : VdIn w S U x aw ds) (hs : w.heap.size ≤ w'.heap.size) (h1 : w'.heap[x.gb]? = w.heap[x.gb]?) (h2 : w'.heap[x.lb]? = w.heap[x.lb]?) (h3 : w'.heap[x.ab]? = w.heap[x.ab]?) (hd : ∀ i b, S i b → w'.heap[b]? = w.heap[b]?) : VdIn w' S U x aw ds :=
  ⟨h.geo.same hs h1, h.right, h.nd, h.n1, h.n2, fun i b hb => (cell_same' h2).trans (h.row i b hb), h3.trans h.box, fun i b d hb hdd => by
    obtain ⟨mb, mcap, cb, g, hh⟩ := h.dev i b d hb hdd
    exact ⟨mb, mcap, cb, g, hh.same hs (hd i)⟩, h.sz, fun i b hb => Nat.lt_of_lt_of_le (h.lt i b hb) hs, h.fx, h.apart, fun b hb => Nat.lt_of_lt_of_le (h.us b hb) hs, h.ug, h.ul, h.ua, h.ne⟩
theorem VdIn.same (h : VdIn w S U x aw ds) (hs : w.heap.size ≤ w'.heap.size) (hu : ∀ b, U b → w'.heap[b]? = w.heap[b]?) (hd : ∀ i b, S i b → w'.heap[b]? = w.heap[b]?) : VdIn w' S U x aw ds :=
  h.same3 hs (hu _ h.ug) (hu _ h.ul) (hu _ h.ua) hd
theorem VdIn.below (h : VdIn w S U x aw ds) (hb : Below w.heap.size w w') : VdIn w' S U x aw ds :=
  h.same hb.size (fun b hU => hb.block b (h.us b hU)) (fun i b hS => hb.block b (h.lt i b hS))
theorem VdIn.wide (h : VdIn w S U x aw ds) (h1 : ∀ b, U b → V b) (h2 : ∀ b, V b → b < w.heap.size) (h3 : ∀ i b, S i b → ¬ V b) : VdIn w S V x aw ds :=
  ⟨h.geo, h.right, h.nd, h.n1, h.n2, h.row, h.box, h.dev, h.sz, h.lt, h3, h.apart, h2, h1 _ h.ug, h1 _ h.ul, h1 _ h.ua, h.ne⟩
/-- The new blocks are none of the devices'. -/
theorem VdIn.more (h : VdIn w S U x aw ds) (hb : Below w.heap.size w w') : VdIn w' S (Go.Proofs.YtlpbbjjibnbooaaGreatDoor.more U w w') x aw ds :=
  (h.below hb).wide (fun b hU => .inl hU) (fun b hV => hV.elim (fun hU => Nat.lt_of_lt_of_le (h.us b hU) hb.size) (fun hh => hh.2)) (fun i b hS hV => hV.elim (fun hU => h.fx i b hS hU) (fun hh => by have := h.lt i b hS; omega))
theorem VdIn.narrow (h : VdIn w S V x aw ds) (h1 : ∀ b, U b → V b) (ug : U x.gb) (ul : U x.lb) (ua : U x.ab) : VdIn w S U x aw ds :=
  ⟨h.geo, h.right, h.nd, h.n1, h.n2, h.row, h.box, h.dev, h.sz, h.lt, fun i b hS hU => h.fx i b hS (h1 b hU), h.apart, fun b hU => h.us b (h1 b hU), ug, ul, ua, h.ne⟩
/-- Blocks that are none of the devices' have turned. -/
theorem VdIn.only {T : Nat → Prop} (h : VdIn w S U x aw ds) (ho : Only T w w') (hT : ∀ g, T g → U g ∧ g ≠ x.gb ∧ g ≠ x.lb ∧ g ≠ x.ab) : VdIn w' S U x aw ds :=
  h.same3 ho.size (ho.block _ (h.us _ h.ug) (fun ht => (hT _ ht).2.1 rfl)) (ho.block _ (h.us _ h.ul) (fun ht => (hT _ ht).2.2.1 rfl)) (ho.block _ (h.us _ h.ua) (fun ht => (hT _ ht).2.2.2 rfl)) (fun i b hS => ho.block b (h.lt i b hS) (fun ht => h.fx i b hS (hT b ht).1))
def setS (S : Nat → Nat → Prop) (i : Nat) (T : Nat → Prop) : Nat → Nat → Prop := fun j b => if j = i then T b else S j b
/-- One device has turned. -/
theorem VdIn.step (h : VdIn w S U x aw ds) {i b : Nat} {d : DevD} (hb : x.bd[i]? = some b) (ho : Only (S i) w w') (hd : DevAt w' (Go.Proofs.YtlpbbjjibnbooaaGreatDoor.more (S i) w w') b d) (hl : d.med.length = x.secs) :
    VdIn w' (setS S i (Go.Proofs.YtlpbbjjibnbooaaGreatDoor.more (S i) w w')) U x aw (ds.set i d) := by
  have hu : ∀ b, U b → w'.heap[b]? = w.heap[b]? := fun b hU => ho.block b (h.us b hU) (fun hS => h.fx i b hS hU)
  have hnew : ∀ j b, setS S i (Go.Proofs.YtlpbbjjibnbooaaGreatDoor.more (S i) w w') j b → S j b ∨ (j = i ∧ w.heap.size ≤ b ∧ b < w'.heap.size) := fun j b hj => by
    unfold setS at hj
    split at hj
    · rename_i e; subst e
      rcases hj with hj | hj
      · exact .inl hj
      · exact .inr ⟨rfl, hj⟩
    · exact .inl hj
  refine ⟨h.geo.same ho.size (hu _ h.ug), h.right, h.nd, h.n1, by rw [List.length_set]; exact h.n2, fun j c hc => (cell_same' (hu _ h.ul)).trans (h.row j c hc), (hu _ h.ua).trans h.box, fun j c e hc he => ?_, fun e he => ?_, fun j c hj => ?_, fun j c hj => ?_, fun j k c hj hk => ?_,
    fun c hc => Nat.lt_of_lt_of_le (h.us c hc) ho.size, h.ug, h.ul, h.ua, h.ne⟩
  · unfold setS
    by_cases hji : j = i
    · subst hji
      rw [hb] at hc; cases hc
      rw [List.getElem?_set, if_pos rfl] at he
      split at he
      · cases he
        rw [show (fun b_1 => if j = j then Go.Proofs.YtlpbbjjibnbooaaGreatDoor.more (S j) w w' b_1 else S j b_1) = Go.Proofs.YtlpbbjjibnbooaaGreatDoor.more (S j) w w' from funext fun _ => if_pos rfl]
        exact hd
      · cases he
    · rw [List.getElem?_set, if_neg (fun e => hji e.symm)] at he
      obtain ⟨mb, mcap, cb, g, hh⟩ := h.dev j c e hc he
      rw [show (fun b_1 => if j = i then Go.Proofs.YtlpbbjjibnbooaaGreatDoor.more (S i) w w' b_1 else S j b_1) = S j from funext fun _ => if_neg hji]
      exact ⟨mb, mcap, cb, g, hh.same ho.size (fun b hS => ho.block b (h.lt j b hS) (fun hS2 => hji (h.apart j i b hS hS2)))⟩
  · rcases List.mem_or_eq_of_mem_set he with he | rfl
    · exact h.sz e he
    · exact hl
  · rcases hnew j c hj with hj | ⟨_, _, h3⟩
    · exact Nat.lt_of_lt_of_le (h.lt j c hj) ho.size
    · exact h3
  · rcases hnew j c hj with hj | ⟨_, h2, _⟩
    · exact h.fx j c hj
    · intro hU; have := h.us c hU; omega
  · rcases hnew j c hj with hj | ⟨e1, h2, _⟩
    · rcases hnew k c hk with hk | ⟨e2, h4, _⟩
      · exact h.apart j k c hj hk
      · have := h.lt j c hj; omega
    · rcases hnew k c hk with hk | ⟨e2, h4, _⟩
      · have := h.lt k c hk; omega
      · omega
/-- One is away, or here again. -/
theorem VdIn.away (h : VdIn w S U x aw ds) (i : Nat) (v : Bool) : VdIn (w.setCell ⟨x.ab, i, none⟩ (.bool v)) S U x (aw.set i v) ds := by
  have hne : ∀ b, b ≠ x.ab → (w.setCell ⟨x.ab, i, none⟩ (.bool v)).heap[b]? = w.heap[b]? := fun b hb => Below.heap_setCell w _ _ b hb
  have hsz : (w.setCell ⟨x.ab, i, none⟩ (.bool v)).heap.size = w.heap.size := by simp [World.setCell]
  have hna : ∀ j b, S j b → b ≠ x.ab := fun j b hS e => h.fx j b hS (e ▸ h.ua)
  refine ⟨h.geo.same (by omega) (hne _ h.ne.1), h.right, h.nd, by rw [List.length_set]; exact h.n1, h.n2, fun j c hc => (cell_same' (hne _ h.ne.2)).trans (h.row j c hc), ?_, fun j c e hc he => ?_, h.sz, fun j c hj => by rw [hsz]; exact h.lt j c hj, h.fx, h.apart,
    fun c hc => by rw [hsz]; exact h.us c hc, h.ug, h.ul, h.ua, h.ne⟩
  · have := h.box.put i (.bool v)
    rw [show ((aw.set i v).map Value.bool).toArray = (aw.map Value.bool).toArray.setIfInBounds i (.bool v) by simp [List.map_set]]
    exact this
  · obtain ⟨mb, mcap, cb, g, hh⟩ := h.dev j c e hc he
    exact ⟨mb, mcap, cb, g, hh.same (by omega) (fun b hS => hne b (hna j b hS))⟩
end
/-- A slice in blocks of U. -/
def SlU (w : World) (U : Nat → Prop) (v : Value) (n : Nat) (cs : List Value) : Prop :=
  ∃ A c, v = .slice A n c ∧ n ≤ c ∧ (0 < n → ∃ b o, A = some ⟨b, o, none⟩ ∧ U b ∧ ∀ j u, cs[j]? = some u → w.cell? ⟨b, o + j, none⟩ = some u)
section
variable {w w' : World} {U V : Nat → Prop} {v : Value} {n : Nat} {cs : List Value}
theorem SlU.to (h : SlU w U v n cs) (hU : ∀ b, U b → b < w.heap.size) : SlAt w v n cs := by
  obtain ⟨A, c, h1, hc, h2⟩ := h
  refine ⟨A, c, h1, hc, fun hp => ?_⟩
  obtain ⟨b, o, e1, e2, e3⟩ := h2 hp
  exact ⟨b, o, e1, hU b e2, e3⟩
theorem SlU.cells {A : Option Addr} {c : Nat} (h : SlU w U (.slice A n c) n cs) (hp : 0 < n) : ∃ b o, A = some ⟨b, o, none⟩ ∧ U b ∧ ∀ j u, cs[j]? = some u → w.cell? ⟨b, o + j, none⟩ = some u := by
  obtain ⟨A', c', h1, _, h2⟩ := h
  cases h1
  exact h2 hp
theorem SlU.form (h : SlU w U v n cs) : ∃ A c, v = .slice A n c := by
  obtain ⟨A, c, h1, _⟩ := h
  exact ⟨A, c, h1⟩
theorem SlU.same (h : SlU w U v n cs) (hs : ∀ b, U b → w'.heap[b]? = w.heap[b]?) : SlU w' U v n cs := by
  obtain ⟨A, c, h1, hc, h2⟩ := h
  refine ⟨A, c, h1, hc, fun hp => ?_⟩
  obtain ⟨b, o, e1, e2, e3⟩ := h2 hp
  exact ⟨b, o, e1, e2, fun j u hu => (cell_same' (hs b e2)).trans (e3 j u hu)⟩
theorem SlU.mono (h : SlU w U v n cs) (hs : ∀ b, U b → V b) : SlU w V v n cs := by
  obtain ⟨A, c, h1, hc, h2⟩ := h
  refine ⟨A, c, h1, hc, fun hp => ?_⟩
  obtain ⟨b, o, e1, e2, e3⟩ := h2 hp
  exact ⟨b, o, e1, hs b e2, e3⟩
/-- Blocks of U stay. -/
def Stays (U : Nat → Prop) (w w' : World) : Prop := Only (fun b => ¬ U b) w w'
theorem Stays.eq (h : Stays U w w') (hU : ∀ b, U b → b < w.heap.size) : ∀ b, U b → w'.heap[b]? = w.heap[b]? := fun b hb => h.block b (hU b hb) (fun hn => hn hb)
theorem SlU.stays (h : SlU w U v n cs) (hs : Stays U w w') (hU : ∀ b, U b → b < w.heap.size) : SlU w' U v n cs := h.same (hs.eq hU)
theorem slU_own {base sz : Nat} {t : TypeId} (h : w.ownsRow base t sz v n cs) (hU : ∀ b, base ≤ b → b < w.heap.size → U b) : SlU w U v n cs := by
  obtain ⟨A, c, h1, hc, h2⟩ := slAt_own h
  refine ⟨A, c, h1, hc, fun hp => ?_⟩
  obtain ⟨b, o, e1, e2, e3⟩ := h2 hp
  subst h1; subst e1
  exact ⟨b, o, rfl, hU b (h.lt b (by
    rcases h.2 with ⟨hn, _⟩ | ⟨g, cap, cur, hv, _⟩
    · cases hn
    · cases hv; rfl)).1 e2, e3⟩
theorem Stays.trans {a b c : World} (h : Stays U a b) (k : Stays U b c) : Stays U a c := Only.trans h k (fun _ hi => .inl hi)
theorem Stays.mono {a b : World} (h : Stays V a b) (hs : ∀ b, U b → V b) : Stays U a b := Only.mono h (fun _ _ hn hU => hn (hs _ hU))
theorem stays_below {a b : World} (h : Below a.heap.size a b) : Stays U a b := Only.of_below h
theorem stays_refl (a : World) : Stays U a a := Only.refl _ a
/-- What lies below a bound stays. -/
theorem Stays.below {a b : World} {B : Nat} (h : Stays U a b) (hB : B ≤ a.heap.size) (hU : ∀ i, i < B → U i) : Below B a b := Only.below h hB (fun i hi => by
  by_cases hl : i < B
  · exact absurd (hU i hl) hi
  · omega)
end
end Go.Proofs.YtlpbbjjibnbooaaGreatDoor

namespace Go.Proofs.YtlpbbjjibnbooaaGreatDoor
set_option linter.unusedVariables false
set_option linter.unusedSimpArgs false
open Go.RowKit

theorem VdIn.parts {w : World} {S : Nat → Nat → Prop} {U : Nat → Prop} {x : VX} {aw : List Bool} {ds : List DevD} (h : VdIn w S U x aw ds) {i : Nat} {d : DevD} (hd : ds[i]? = some d) :
    i < x.bd.length ∧ ∃ b a, x.bd[i]? = some b ∧ aw[i]? = some a ∧ DevAt w (S i) b d ∧ w.cell? ⟨x.lb, i, none⟩ = some (.pointer (some ⟨b, 0, none⟩)) ∧ w.cell? ⟨x.ab, i, none⟩ = some (.bool a) := by
  have hi : i < ds.length := (List.getElem?_eq_some_iff.1 hd).1
  rw [h.n2] at hi
  have h1 := List.getElem?_eq_getElem hi
  have h2 : aw[i]? = some (aw[i]'(by rw [h.n1]; exact hi)) := List.getElem?_eq_getElem _
  exact ⟨hi, _, _, h1, h2, h.dev i _ d h1 hd, h.row i _ h1, h.box.at_ (by rw [List.getElem?_toArray, List.getElem?_map, h2]; rfl)⟩
set_option maxRecDepth 20000 in
theorem here_any {w : World} {S : Nat → Nat → Prop} {U : Nat → Prop} {x : VX} {aw : List Bool} {ds : List DevD} (h : VdIn w S U x aw ds) {i : Nat} {a : Bool} {d : DevD} (ha : aw[i]? = some a) (hd : ds[i]? = some d) :
    Calls Tryz.prog 87 #[x.val, .int .i64 i] w fun e w' => e = .returned (.bool (!a && !d.lost)) ∧ Below w.heap.size w w' := by
  obtain ⟨w1, hw1⟩ : ∃ y, w.alloc (.cells x.cells 50) = y := ⟨_, rfl⟩
  have B1 : Blk w1 w.heap.size 50 x.cells := by rw [← hw1]; exact Blk.new _ _ _
  have D1 : Below w.heap.size w w1 := by rw [← hw1]; exact keep_alloc (Below.refl _ _) _
  obtain ⟨hi, b, a', hb, ha', hdev, p0, q0⟩ := (h.below D1).parts hd
  have haa : a' = a := by rw [ha] at ha'; cases ha'; rfl
  subst haa
  have hlost := lost_any hdev
  obtain ⟨lo, hlo⟩ : ∃ lo, d.lost = lo := ⟨_, rfl⟩
  rw [hlo] at hlost
  have HL := Lib.hid hlost
  have HLO := Lib.hid hlo
  have g1 : w1.cell? ⟨w.heap.size, 2, none⟩ = some (.slice (some ⟨x.lb, 0, none⟩) x.bd.length x.lc) := B1.at_ rfl
  have g2 : w1.cell? ⟨w.heap.size, 3, none⟩ = some (.slice (some ⟨x.ab, 0, none⟩) x.bd.length x.bd.length) := B1.at_ rfl
  have HD1 := Lib.hid D1
  clear h B1 D1 hb ha ha' hdev hd hlost hlo
  subst hw1
  simp only [VX.cells] at p0 q0 g1 g2
  go_enter Tryz.func87, Tryz.ntmps87
  cases a' with
  | true =>
    go_wp2_with fail
    go_ret
    exact ⟨rfl, HD1.out⟩
  | false =>
    go_wp2_with fail
    refine HL.out.mono ?_
    rintro e w2 ⟨rfl, rfl⟩
    cases lo with
    | true =>
      go_wp2_with fail
      go_ret
      exact ⟨by rw [HLO.out]; rfl, HD1.out⟩
    | false =>
      go_wp2_with fail
      go_ret
      exact ⟨by rw [HLO.out]; rfl, HD1.out⟩

theorem secsX_any {w : World} {T : Nat → Prop} {b g secs : Nat} {d : DevD} {cs : Array Value} {t : TypeId} (h : DevAt w T b d) (hc : Blk w g t cs) (hc1 : cs[1]? = some (.int .i64 secs)) :
    Calls Tryz.prog 85 #[.pointer (some ⟨b, 0, none⟩), .pointer (some ⟨g, 0, none⟩)] w fun e w' => e = .returned (.bool ((d.med.length : Int) != secs)) ∧ Below w.heap.size w w' := by
  have H : Hid (∀ W, Below w.heap.size w W → Calls Tryz.prog 86 #[.pointer (some ⟨b, 0, none⟩)] W fun e w' => e = .returned (.int .i64 d.med.length) ∧ W = w') := Lib.hid (fun W hW => secs_any (h.below hW))
  have HG := Lib.hid hc
  generalize d.med.length = N at *
  have HC1 := Lib.hid hc1
  clear h hc hc1
  go_enter Tryz.func85, Tryz.ntmps85
  go_wp2_with fail
  obtain ⟨C, hCd, hCw, hCB, hCK, hCD⟩ := cls_below w
  have f1 : ∀ W, C W → W.cell? ⟨g, 1, none⟩ = some (.int .i64 secs) := fun W h => keep_cell (hCB W h) (HG.out.at_ HC1.out) HG.out.lt
  refine wp_region_cls C (by kernel_rfl) (by kernel_rfl) hCd ?_
  repeat (first
    | go_big_quiet_skip
    | (go_big_quiet_want
       go_big_quiet_op
       first
         | go_big_quiet_on
         | (apply Exists.intro
            refine ⟨fun W hW => ?_, ?_⟩
            · first
                | exact rfl
                | exact ⟨rfl, rfl⟩
                | (have e0 := f1 W hW; simp only [e0, Result.andThen_ok]; done)
                | (have e0 := f1 W hW; simp only [e0, Result.andThen_ok]; first | exact ⟨trivial, rfl⟩ | exact rfl | exact ⟨rfl, rfl⟩)
                | (refine (H.out W (hCB W hW)).mono ?_; rintro e w' ⟨rfl, rfl⟩; exact ⟨rfl, hW⟩)
            go_big_quiet_on)))
  refine wpQuiet_nil ?_
  intro w' hw'
  have hwB := hCB w' hw'
  go_wp2_with fail
  go_ret
  exact ⟨rfl, hwB⟩
set_option maxRecDepth 20000 in
theorem idxPtr_none (fn : FuncId) (caps : Array Value) {w : World} {bd : List Nat} {lb lc : Nat} (hlt : lb < w.heap.size) (row : ∀ i b, bd[i]? = some b → w.cell? ⟨lb, i, none⟩ = some (.pointer (some ⟨b, 0, none⟩))) (f1 : bd.length ≤ 1000000) (hgo : ∀ (args : Array Value) (w : World), (callFunc fn args).run Tryz.prog w = .ok (.enter fn args) w)
    (hp : ∀ b ∈ bd, ∀ W, Below w.heap.size w W → Calls Tryz.prog fn (#[.pointer (some ⟨b, 0, none⟩)] ++ caps) W fun e w' => e = .returned (.bool false) ∧ Below W.heap.size W w') :
    Calls Tryz.prog 117 #[.slice (some ⟨lb, 0, none⟩) bd.length lc, .func (.func fn) #[] caps] w fun e w' => e = .returned (.int .i64 (-1)) ∧ Below w.heap.size w w' := by
  have HP := Lib.hid hp
  have HR := Lib.hid row
  have HL := Lib.hid hlt
  clear hp row hlt
  go_enter Tryz.func117, Tryz.ntmps117
  go_wp2_with fail
  go_loopw [5, 8] (fun _ t wr => ∃ k : Nat, k ≤ bd.length ∧ t = .int .i64 k ∧ Below w.heap.size w wr) (fun _ t _ => bd.length - (RowKit.intOf t).toNat)
  case atStart => exact ⟨0, Nat.zero_le _, rfl, Below.refl _ _⟩
  case round =>
    obtain ⟨k, hk, rfl, hb⟩ := hrel
    have HB := Lib.hid hb
    by_cases hlt : k < bd.length
    · obtain ⟨b, hx⟩ : ∃ b, bd[k]? = some b := ⟨_, List.getElem?_eq_getElem hlt⟩
      have f0 : wr.cell? ⟨lb, k, none⟩ = some (.pointer (some ⟨b, 0, none⟩)) := keep_cell hb (HR.out k b hx) HL.out
      have hdc : decide (k < bd.length) = true := decide_eq_true hlt
      have HLT := Lib.hid hlt
      have HXX := Lib.hid hx
      clear hx hb
      go_wp2_with fail
      refine (HP.out b (List.mem_of_getElem? HXX.out) wr HB.out).mono ?_
      rintro e w1 ⟨rfl, hb1⟩
      have HB1 := Lib.hid (keep_below hb1 HB.out)
      clear hb1
      go_wp2_with fail
      go_roundw
      case rel => exact ⟨k + 1, HLT.out, by go_num, HB1.out⟩
      case measure => have := HLT.out; simp [RowKit.intOf]; omega
    · obtain rfl : k = bd.length := by omega
      have hdc : decide ((bd.length : Int) < bd.length) = false := decide_eq_false (by omega)
      clear hb
      go_wp2_with fail
      go_ret
      exact ⟨rfl, HB.out⟩
theorem conPtr_none (fn : FuncId) (caps : Array Value) {w : World} {bd : List Nat} {lb lc : Nat} (hlt : lb < w.heap.size) (row : ∀ i b, bd[i]? = some b → w.cell? ⟨lb, i, none⟩ = some (.pointer (some ⟨b, 0, none⟩))) (f1 : bd.length ≤ 1000000) (hgo : ∀ (args : Array Value) (w : World), (callFunc fn args).run Tryz.prog w = .ok (.enter fn args) w)
    (hp : ∀ b ∈ bd, ∀ W, Below w.heap.size w W → Calls Tryz.prog fn (#[.pointer (some ⟨b, 0, none⟩)] ++ caps) W fun e w' => e = .returned (.bool false) ∧ Below W.heap.size W w') :
    Calls Tryz.prog 84 #[.slice (some ⟨lb, 0, none⟩) bd.length lc, .func (.func fn) #[] caps] w fun e w' => e = .returned (.bool false) ∧ Below w.heap.size w w' := by
  have H := Lib.hid (idxPtr_none (lc := lc) fn caps hlt row f1 hgo hp)
  clear hp hgo row
  go_enter Tryz.func84, Tryz.ntmps84
  go_wp2_with fail
  refine H.out.mono ?_
  rintro e w1 ⟨rfl, hb1⟩
  go_wp2_with fail
  go_ret
  exact ⟨rfl, hb1⟩
theorem goesSecs : ∀ (args : Array Value) (w : World), (callFunc 85 args).run Tryz.prog w = .ok (.enter 85 args) w := enters_of Tryz.func85 (by kernel_rfl) (by kernel_rfl)
theorem vright_any {w : World} {S : Nat → Nat → Prop} {U : Nat → Prop} {x : VX} {aw : List Bool} {ds : List DevD} (h : VdIn w S U x aw ds) (few : x.bd.length ≤ 1000) :
    Calls Tryz.prog 41 #[x.val] w fun e w' => e = .returned (.bool true) ∧ Below w.heap.size w w' := by
  obtain ⟨w1, hw1⟩ : ∃ y, w.alloc (.cells x.cells 50) = y := ⟨_, rfl⟩
  have B1 : Blk w1 w.heap.size 50 x.cells := by rw [← hw1]; exact Blk.new _ _ _
  have D1 : Below w.heap.size w w1 := by rw [← hw1]; exact keep_alloc (Below.refl _ _) _
  have h1 := h.below D1
  have HG : Hid (∀ W, Below w1.heap.size w1 W → Calls Tryz.prog 24 #[.agg #[.slice (some ⟨x.gb, 0, none⟩) x.m x.cc, .int .i64 x.secs]] W fun e w' => e = .returned (.bool true) ∧ Below W.heap.size W w') := Lib.hid (fun W hW => by
    have := right_any (some ⟨x.gb, 0, none⟩) x.m x.cc x.gs x.secs W (h1.geo.below hW (Nat.le_refl _))
    rwa [h.right] at this)
  have HN : Hid (∀ W, Below w1.heap.size w1 W → Calls Tryz.prog 81 #[.agg #[.slice (some ⟨x.gb, 0, none⟩) x.m x.cc, .int .i64 x.secs]] W fun e w' => e = .returned (.int .i64 x.bd.length) ∧ Below W.heap.size W w') := Lib.hid (fun W hW => by
    have := devs_any (some ⟨x.gb, 0, none⟩) x.m x.cc x.gs x.secs W (h1.geo.below hW (Nat.le_refl _))
    rw [show gDevs x.gs x.secs = x.bd.length by unfold gDevs; rw [if_pos h.right]; exact h.nd] at this
    exact this)
  have HP : Hid (∀ W, Below w1.heap.size w1 W → Calls Tryz.prog 84 #[.slice (some ⟨x.lb, 0, none⟩) x.bd.length x.lc, .func (.func 85) #[] #[.pointer (some ⟨w.heap.size, 0, none⟩)]] W fun e w' => e = .returned (.bool false) ∧ Below W.heap.size W w') := Lib.hid (fun W hW =>
    conPtr_none 85 #[.pointer (some ⟨w.heap.size, 0, none⟩)] (Nat.lt_of_lt_of_le (h1.us _ h1.ul) hW.size) (h1.below hW).row (by omega) goesSecs (fun b hb W' hW' => by
      have hV := (h1.below hW).below hW'
      obtain ⟨i, hi⟩ := List.mem_iff_getElem?.1 hb
      have hil : i < ds.length := by rw [h.n2]; exact (List.getElem?_eq_some_iff.1 hi).1
      have hd := hV.dev i b _ hi (List.getElem?_eq_getElem hil)
      have hsz := hV.sz _ (List.getElem_mem hil)
      have := secsX_any hd ((B1.below hW B1.lt).below hW' (B1.below hW B1.lt).lt) (secs := x.secs) rfl
      rw [hsz] at this
      simpa using this))
  have HD1 := Lib.hid D1
  have HB1 := Lib.hid B1
  have HW1 := Lib.hid hw1
  clear h h1 D1 B1 hw1
  go_enter Tryz.func41, Tryz.ntmps41
  repeat' (first
    | go_values
    | go_skip
    | go_guarded
    | ((fail_if_success (with_reducible refine drawn_mark ?_))
       first
         | go_step
         | go_upon
         | go_back
         | (simp only [Int.not_lt, Int.not_le] at *; go_simp)
         | (go_values <;> (try go_simp))
         | (go_ite <;> go_prune <;> (try go_simp))
         | (split <;> (first | (rename_i hx; exact (hx _ rfl).elim) | go_prune))))
  rw [HW1.out]
  obtain ⟨C, hCd, hCw, hCB, hCK, hCD⟩ := cls_below w1
  have f0 : ∀ W, C W → W.cell? ⟨w.heap.size, 0, none⟩ = some (.slice (some ⟨x.gb, 0, none⟩) x.m x.cc) := fun W h => keep_cell (hCB W h) (HB1.out.at_ rfl) HB1.out.lt
  have f1 : ∀ W, C W → W.cell? ⟨w.heap.size, 1, none⟩ = some (.int .i64 x.secs) := fun W h => keep_cell (hCB W h) (HB1.out.at_ rfl) HB1.out.lt
  have f2 : ∀ W, C W → W.cell? ⟨w.heap.size, 2, none⟩ = some (.slice (some ⟨x.lb, 0, none⟩) x.bd.length x.lc) := fun W h => keep_cell (hCB W h) (HB1.out.at_ rfl) HB1.out.lt
  have f3 : ∀ W, C W → W.cell? ⟨w.heap.size, 3, none⟩ = some (.slice (some ⟨x.ab, 0, none⟩) x.bd.length x.bd.length) := fun W h => keep_cell (hCB W h) (HB1.out.at_ rfl) HB1.out.lt
  refine wp_region_cls C (by kernel_rfl) (by kernel_rfl) hCd ?_
  repeat (first
    | go_big_quiet_skip
    | (go_big_quiet_want
       go_big_quiet_op
       first
         | go_big_quiet_on
         | (apply Exists.intro
            refine ⟨fun W hW => ?_, ?_⟩
            · first
                | exact rfl
                | exact ⟨rfl, rfl⟩
                | (have e0 := f0 W hW; have e1 := f1 W hW; have e2 := f2 W hW; have e3 := f3 W hW; simp only [e0, e1, e2, e3, Result.andThen_ok]; done)
                | (have e0 := f0 W hW; have e1 := f1 W hW; have e2 := f2 W hW; have e3 := f3 W hW; simp only [e0, e1, e2, e3, Result.andThen_ok]; first | exact ⟨trivial, rfl⟩ | exact rfl | exact ⟨rfl, rfl⟩)
                | (with_reducible refine (HG.out W (hCB W hW)).mono ?_; rintro e w' ⟨rfl, hb⟩; exact ⟨rfl, hCK _ _ hW hb⟩)
                | (with_reducible refine (HN.out W (hCB W hW)).mono ?_; rintro e w' ⟨rfl, hb⟩; exact ⟨rfl, hCK _ _ hW hb⟩)
            go_big_quiet_on)))
  refine wpQuiet_nil ?_
  intro w2 hw2
  have HC2 := Lib.hid (hCB w2 hw2)
  have g2 := f2 w2 hw2
  clear hCd hCw hCB hCK hCD f0 f1 f2 f3 hw2
  go_wp2_with fail
  refine (HP.out _ HC2.out).mono ?_
  rintro e w3 ⟨rfl, hb3⟩
  have HD3 := Lib.hid (HD1.out.trans ((HC2.out.trans (hb3.mono HC2.out.size)).mono HD1.out.size))
  clear hb3
  go_wp2_with fail
  go_ret
  exact ⟨rfl, HD3.out⟩
end Go.Proofs.YtlpbbjjibnbooaaGreatDoor
