/-
  Contracts of the statements of heal: laid.
-/
import Derived.Test.YtbhkbcpljakmjaaGreatJ27
import Derived.Test.YtbhkbcpljakmjaaGreatJ24
namespace Go.Proofs.YtbhkbcpljakmjaaGreat
set_option linter.unusedVariables false
set_option linter.unusedSimpArgs false
open Go.RowKit
theorem build_devs0 (W : World) : (Instr.build 37 #[]).run Tryz.prog W = .ok (.agg vZ) W := by kernel_rfl
structure LdB (w W : World) (A : Option Addr) (m c : Nat) (secs : Int) (p : PtrD) : Prop where
 g : Blk W w.heap.size 24 #[.slice A m c, .int .i64 secs]
 p : Blk W (w.heap.size + 1) 31 #[.int .i64 p.ag, .int .i64 p.aa, .int .i64 p.bg, .int .i64 p.ba, .bool p.two, .int .i64 p.size, .int .i64 p.level, .int .i64 p.birth, .int .u64 p.s0, .int .u64 p.s1, .int .u64 p.s2, .int .u64 p.s3]
 rx : Blk W (w.heap.size + 1 + 1) 37 vZ
 rp : Blk W (w.heap.size + 1 + 1 + 1) 31 #[.int .i64 0, .int .i64 0, .int .i64 0, .int .i64 0, .bool false, .int .i64 0, .int .i64 0, .int .i64 0, .int .u64 0, .int .u64 0, .int .u64 0, .int .u64 0]
theorem LdB.same {w W W' : World} {A : Option Addr} {m c : Nat} {secs : Int} {p : PtrD} (h : LdB w W A m c secs p) (hs : ∀ g, w.heap.size ≤ g → g ≤ w.heap.size + 3 → W'.heap[g]? = W.heap[g]?) : LdB w W' A m c secs p :=
 ⟨(hs _ (by omega) (by omega)).trans h.g, (hs _ (by omega) (by omega)).trans h.p, (hs _ (by omega) (by omega)).trans h.rx, (hs _ (by omega) (by omega)).trans h.rp⟩
theorem LdB.below {w W W' : World} {A : Option Addr} {m c : Nat} {secs : Int} {p : PtrD} (h : LdB w W A m c secs p) (hb : Below W.heap.size W W') : LdB w W' A m c secs p :=
 h.same fun g h1 h2 => hb.block g (by have := h.rp.lt; omega)
def LdNo (w w' : World) (e : Ending) : Prop := ∃ (xv : Array Value) (pq : PtrD), e = .returned (.tuple #[.agg xv, .agg #[.int .i64 pq.ag, .int .i64 pq.aa, .int .i64 pq.bg, .int .i64 pq.ba, .bool pq.two, .int .i64 pq.size, .int .i64 pq.level, .int .i64 pq.birth, .int .u64 pq.s0, .int .u64 pq.s1, .int .u64 pq.s2, .int .u64 pq.s3], .slice none 0 0, .bool false]) ∧ (xv = vZ ∨ ∃ (y : VX) (S : Nat → Nat → Prop) (U : Nat → Prop) (aw : List Bool) (ds : List DevD), xv = y.cells ∧ VdIn w' S U y aw ds ∧ DsOk 0 y.secs ds ∧ y.bd.length ≤ 1000 ∧ ∀ b, b < w.heap.size → U b) ∧ Below w.heap.size w w'
def LdYes (w : World) (gs : List (Int × Int)) (secs : Int) (p : PtrD) (s : List UInt8) (al ll : List Bool) (e : Ending) (w' : World) : Prop :=
 ∃ (y : VX) (S : Nat → Nat → Prop) (U : Nat → Prop) (hv : Value), e = .returned (.tuple #[y.val, .agg #[.int .i64 (withSum p s).ag, .int .i64 (withSum p s).aa, .int .i64 (withSum p s).bg, .int .i64 (withSum p s).ba, .bool (withSum p s).two, .int .i64 (withSum p s).size, .int .i64 (withSum p s).level, .int .i64 (withSum p s).birth, .int .u64 (withSum p s).s0, .int .u64 (withSum p s).s1, .int .u64 (withSum p s).s2, .int .u64 (withSum p s).s3], hv, .bool true]) ∧ y.gs = gs ∧ (y.secs : Int) = secs ∧
  VdIn w' S U y (awT al y.bd.length y.bd.length) (loT ll (wrAll gs secs (awT al y.bd.length 0) s (plsL (withSum p s)) (List.replicate y.bd.length (DevD.blank y.secs 0))) y.bd.length) ∧ y.bd.length ≤ 32 ∧ 0 < y.bd.length ∧ y.secs ≤ 200 ∧ 24 ≤ y.secs ∧
  (∀ b, b < w.heap.size → U b) ∧ SlU w' U hv y.bd.length (boolC (hrT al ll y.bd.length)) ∧ (w.heap.size ≤ y.ab ∧ w.heap.size ≤ y.gb ∧ w.heap.size ≤ y.lb) ∧ Below w.heap.size w w'
def LdPost (w : World) (gs : List (Int × Int)) (secs : Int) (p : PtrD) (s : List UInt8) (al ll : List Bool) (e : Ending) (w' : World) : Prop :=
 if s.length ≤ 1000 ∧ s.length % 64 = 0 ∧ gRight gs secs = true ∧ secs ≤ 200 ∧ rightB gs secs (withSum p s) = true then LdYes w gs secs p s al ll e w' else LdNo w w' e
set_option maxRecDepth 20000 in
set_option maxHeartbeats 8000000 in
theorem laid10_any {w : World} {A : Option Addr} {m c : Nat} {gs : List (Int × Int)} {secs : Int} (hg : GeoAt w A m gs) (p : PtrD) (s : List UInt8) (hsl : s.length ≤ 9223372036854775807) {av lv : Value} {al ll : List Bool} (ha : SlAt w av al.length (boolC al)) (hl : SlAt w lv ll.length (boolC ll)) :
 Calls Tryz.prog 9 #[.agg #[.slice A m c, .int .i64 secs], .agg #[.int .i64 p.ag, .int .i64 p.aa, .int .i64 p.bg, .int .i64 p.ba, .bool p.two, .int .i64 p.size, .int .i64 p.level, .int .i64 p.birth, .int .u64 p.s0, .int .u64 p.s1, .int .u64 p.s2, .int .u64 p.s3], str s, av, lv] w fun e w' => LdPost w gs secs p s al ll e w' := by
 obtain ⟨Aa, ca, rfl⟩ := ha.form
 obtain ⟨Al, cl, rfl⟩ := hl.form
 obtain ⟨w2, hw2⟩ : ∃ z, (((w.alloc (.cells #[.slice A m c, .int .i64 secs] 24)).alloc (.cells #[.int .i64 p.ag, .int .i64 p.aa, .int .i64 p.bg, .int .i64 p.ba, .bool p.two, .int .i64 p.size, .int .i64 p.level, .int .i64 p.birth, .int .u64 p.s0, .int .u64 p.s1, .int .u64 p.s2, .int .u64 p.s3] 31)).alloc (.cells vZ 37)).alloc (.cells #[.int .i64 0, .int .i64 0, .int .i64 0, .int .i64 0, .bool false, .int .i64 0, .int .i64 0, .int .i64 0, .int .u64 0, .int .u64 0, .int .u64 0, .int .u64 0] 31) = z := ⟨_, rfl⟩
 have hB2 : LdB w w2 A m c secs p := by
  rw [← hw2]
  refine ⟨(((Blk.new _ _ _).alloc _).alloc _).alloc _, ((Blk.new2 _ _ _ _).alloc _).alloc _, ?_, ?_⟩
  · have := Blk.new2 (w.alloc (.cells #[.slice A m c, .int .i64 secs] 24)) (.cells #[.int .i64 p.ag, .int .i64 p.aa, .int .i64 p.bg, .int .i64 p.ba, .bool p.two, .int .i64 p.size, .int .i64 p.level, .int .i64 p.birth, .int .u64 p.s0, .int .u64 p.s1, .int .u64 p.s2, .int .u64 p.s3] 31) 37 vZ
    rw [World.size_alloc] at this
    exact this.alloc _
  · have := Blk.new2 ((w.alloc (.cells #[.slice A m c, .int .i64 secs] 24)).alloc (.cells #[.int .i64 p.ag, .int .i64 p.aa, .int .i64 p.bg, .int .i64 p.ba, .bool p.two, .int .i64 p.size, .int .i64 p.level, .int .i64 p.birth, .int .u64 p.s0, .int .u64 p.s1, .int .u64 p.s2, .int .u64 p.s3] 31)) (.cells vZ 37) 31 #[.int .i64 0, .int .i64 0, .int .i64 0, .int .i64 0, .bool false, .int .i64 0, .int .i64 0, .int .i64 0, .int .u64 0, .int .u64 0, .int .u64 0, .int .u64 0]
    rw [World.size_alloc, World.size_alloc] at this
    exact this
 have D2 : Below w.heap.size w w2 := by rw [← hw2]; exact keep_alloc (keep_alloc (keep_alloc (keep_alloc (Below.refl _ _) _) _) _) _
 have HB2 := Lib.hid hB2
 have HD2 := Lib.hid D2
 have HW2 := Lib.hid hw2
 have HARG := Lib.hid (And.intro ha hl)
 have HG := Lib.hid hg
 clear ha hl hB2 D2 hw2 hg
 go_enter Tryz.func9, Tryz.ntmps9
 by_cases hbad : s.length ≤ 1000 ∧ s.length % 64 = 0
 case neg =>
  have HNO : Hid (¬ (s.length ≤ 1000 ∧ s.length % 64 = 0 ∧ gRight gs secs = true ∧ secs ≤ 200 ∧ rightB gs secs (withSum p s) = true)) := Lib.hid fun h => hbad ⟨h.1, h.2.1⟩
  obtain ⟨S0, hS0⟩ : ∃ S0 : World → Prop, S0 = fun X => ∀ g : Nat, g ≠ w.heap.size + 1 + 1 → g ≠ w.heap.size + 1 + 1 + 1 → X.heap[g]? = (w2).heap[g]? := ⟨_, rfl⟩
  have hSw : S0 (w2).drew := by rw [hS0]; exact fun _ _ _ => rfl
  have f4 : ∀ X, S0 X → X.cell? ⟨w.heap.size + 1, 0, none⟩ = some (.int .i64 p.ag) := fun X h => by rw [hS0] at h; exact (cell_same' (h _ (by omega) (by omega))).trans ((HB2.out).p.at_ rfl)
  have f5 : ∀ X, S0 X → X.cell? ⟨w.heap.size + 1, 1, none⟩ = some (.int .i64 p.aa) := fun X h => by rw [hS0] at h; exact (cell_same' (h _ (by omega) (by omega))).trans ((HB2.out).p.at_ rfl)
  have f6 : ∀ X, S0 X → X.cell? ⟨w.heap.size + 1, 2, none⟩ = some (.int .i64 p.bg) := fun X h => by rw [hS0] at h; exact (cell_same' (h _ (by omega) (by omega))).trans ((HB2.out).p.at_ rfl)
  have f7 : ∀ X, S0 X → X.cell? ⟨w.heap.size + 1, 3, none⟩ = some (.int .i64 p.ba) := fun X h => by rw [hS0] at h; exact (cell_same' (h _ (by omega) (by omega))).trans ((HB2.out).p.at_ rfl)
  have f8 : ∀ X, S0 X → X.cell? ⟨w.heap.size + 1, 4, none⟩ = some (.bool p.two) := fun X h => by rw [hS0] at h; exact (cell_same' (h _ (by omega) (by omega))).trans ((HB2.out).p.at_ rfl)
  have f9 : ∀ X, S0 X → X.cell? ⟨w.heap.size + 1, 5, none⟩ = some (.int .i64 p.size) := fun X h => by rw [hS0] at h; exact (cell_same' (h _ (by omega) (by omega))).trans ((HB2.out).p.at_ rfl)
  have f10 : ∀ X, S0 X → X.cell? ⟨w.heap.size + 1, 6, none⟩ = some (.int .i64 p.level) := fun X h => by rw [hS0] at h; exact (cell_same' (h _ (by omega) (by omega))).trans ((HB2.out).p.at_ rfl)
  have f11 : ∀ X, S0 X → X.cell? ⟨w.heap.size + 1, 7, none⟩ = some (.int .i64 p.birth) := fun X h => by rw [hS0] at h; exact (cell_same' (h _ (by omega) (by omega))).trans ((HB2.out).p.at_ rfl)
  have f12 : ∀ X, S0 X → X.cell? ⟨w.heap.size + 1, 8, none⟩ = some (.int .u64 p.s0) := fun X h => by rw [hS0] at h; exact (cell_same' (h _ (by omega) (by omega))).trans ((HB2.out).p.at_ rfl)
  have f13 : ∀ X, S0 X → X.cell? ⟨w.heap.size + 1, 9, none⟩ = some (.int .u64 p.s1) := fun X h => by rw [hS0] at h; exact (cell_same' (h _ (by omega) (by omega))).trans ((HB2.out).p.at_ rfl)
  have f14 : ∀ X, S0 X → X.cell? ⟨w.heap.size + 1, 10, none⟩ = some (.int .u64 p.s2) := fun X h => by rw [hS0] at h; exact (cell_same' (h _ (by omega) (by omega))).trans ((HB2.out).p.at_ rfl)
  have f15 : ∀ X, S0 X → X.cell? ⟨w.heap.size + 1, 11, none⟩ = some (.int .u64 p.s3) := fun X h => by rw [hS0] at h; exact (cell_same' (h _ (by omega) (by omega))).trans ((HB2.out).p.at_ rfl)
  have HS0 := Lib.hid hS0
  clear hS0
  by_cases h1 : 1000 < s.length
  · have hd1 : decide ((1000 : Int) < s.length) = true := decide_eq_true (by omega)
    clear h1 hbad
    go_wp2_with fail
    rw [HW2.out]
    refine G.wp_region_eff S0 [2, 3] 4 (by kernel_rfl) (by kernel_rfl) (by kernel_rfl) hSw ?_
    simp only [List.take_succ_cons, List.take_zero, List.drop_succ_cons, List.drop_zero]
    refine G.wpLexE_take 2 (by kernel_rfl) (by kernel_rfl) ?_
    simp only [List.take_succ_cons, List.take_zero, List.drop_succ_cons, List.drop_zero]
    repeat (first
     | go_big_quiet_skip
     | (go_big_quiet_want; refine quiet_build 37 #[] (by rfl) _ rfl (.agg vZ) build_devs0 ?_; simp only [Act.put, List.setIfInBounds_toArray, List.set_cons_zero, List.set_cons_succ]; go_big_quiet_on)
     | (go_big_quiet_want
        go_big_quiet_op
        first
         | go_big_quiet_on
         | (apply Exists.intro
            refine ⟨fun W hW => ?_, ?_⟩
            · first
               | exact rfl
               | exact ⟨rfl, rfl⟩
               | (have e0 := f4 W hW; have e1 := f5 W hW; have e2 := f6 W hW; have e3 := f7 W hW; have e4 := f8 W hW; have e5 := f9 W hW; have e6 := f10 W hW; have e7 := f11 W hW; have e8 := f12 W hW; have e9 := f13 W hW; have e10 := f14 W hW; have e11 := f15 W hW; simp only [e0, e1, e2, e3, e4, e5, e6, e7, e8, e9, e10, e11, Result.andThen_ok]; done)
               | (have e0 := f4 W hW; have e1 := f5 W hW; have e2 := f6 W hW; have e3 := f7 W hW; have e4 := f8 W hW; have e5 := f9 W hW; have e6 := f10 W hW; have e7 := f11 W hW; have e8 := f12 W hW; have e9 := f13 W hW; have e10 := f14 W hW; have e11 := f15 W hW; simp only [e0, e1, e2, e3, e4, e5, e6, e7, e8, e9, e10, e11, Result.andThen_ok]; first | exact ⟨trivial, rfl⟩ | exact rfl | exact ⟨rfl, rfl⟩)
               | (skip)
            go_big_quiet_on)))
    refine wpQuiet_nil ?_
    clear f4 f5 f6 f7 f8 f9 f10 f11 f12 f13 f14 f15
    show G.wpLexE _ _ _ _ _ _ _ _ _
    refine G.wpLexE_effg (by kernel_rfl) rfl ?_
    obtain ⟨X1, hX1⟩ : ∃ z, (((((w2).setCell ⟨w.heap.size + 1 + 1, 0, none⟩ (.slice none 0 0)).setCell ⟨w.heap.size + 1 + 1, 1, none⟩ (.int .i64 0)).setCell ⟨w.heap.size + 1 + 1, 2, none⟩ (.slice none 0 0)).setCell ⟨w.heap.size + 1 + 1, 3, none⟩ (.slice none 0 0)).drew = z := ⟨_, rfl⟩
    have hx1 : Blk X1 (w.heap.size + 1 + 1) 37 #[.slice none 0 0, .int .i64 0, .slice none 0 0, .slice none 0 0] := by rw [← hX1]; exact (((((HB2.out).rx).put 0 (.slice none 0 0)).put 1 (.int .i64 0)).put 2 (.slice none 0 0)).put 3 (.slice none 0 0)
    have hx2 : Blk X1 (w.heap.size + 1 + 1 + 1) 31 #[.int .i64 0, .int .i64 0, .int .i64 0, .int .i64 0, .bool false, .int .i64 0, .int .i64 0, .int .i64 0, .int .u64 0, .int .u64 0, .int .u64 0, .int .u64 0] := by
     rw [← hX1]
     show Blk (((((_ : World).setCell _ _).setCell _ _).setCell _ _).setCell _ _) _ _ _
     refine Blk.far (Blk.far (Blk.far (Blk.far (HB2.out).rp ?_ _) ?_ _) ?_ _) ?_ _
     all_goals (intro hh; dsimp only at hh; omega)
    have hx3 : ∀ g, g ≠ w.heap.size + 1 + 1 → X1.heap[g]? = (w2).heap[g]? := fun g hg => by
     rw [← hX1]
     show (((((_ : World).setCell _ _).setCell _ _).setCell _ _).setCell _ _).heap[g]? = _
     rw [Below.heap_setCell _ _ _ g hg, Below.heap_setCell _ _ _ g hg, Below.heap_setCell _ _ _ g hg, Below.heap_setCell _ _ _ g hg]
    have hx4 : Only (fun g => g = w.heap.size + 1 + 1 ∨ g = w.heap.size + 1 + 1 + 1) (w2) X1 := by
     rw [← hX1]
     have hT : ∀ o, (fun g => g = w.heap.size + 1 + 1 ∨ g = w.heap.size + 1 + 1 + 1) (⟨w.heap.size + 1 + 1, o, none⟩ : Addr).block ∨ (w2).heap.size ≤ (⟨w.heap.size + 1 + 1, o, none⟩ : Addr).block := fun o => .inl (.inl rfl)
     exact (((((Only.refl (fun g => g = w.heap.size + 1 + 1 ∨ g = w.heap.size + 1 + 1 + 1) (w2)).set (hT 0) _).set (hT 1) _).set (hT 2) _).set (hT 3) _).drew
    have hS1 : S0 X1 := by rw [HS0.out]; exact fun g h1 _ => hx3 g h1
    have z0 : (w2).cell? ⟨w.heap.size + 1 + 1, 0, none⟩ = some (.slice none 0 0) := (HB2.out).rx.at_ rfl
    have y0 : (w2).frozen? ⟨w.heap.size + 1 + 1, 0, none⟩ = false := (HB2.out).rx.fr 0
    have z1 : (w2).cell? ⟨w.heap.size + 1 + 1, 1, none⟩ = some (.int .i64 0) := (HB2.out).rx.at_ rfl
    have y1 : (w2).frozen? ⟨w.heap.size + 1 + 1, 1, none⟩ = false := (HB2.out).rx.fr 1
    have z2 : (w2).cell? ⟨w.heap.size + 1 + 1, 2, none⟩ = some (.slice none 0 0) := (HB2.out).rx.at_ rfl
    have y2 : (w2).frozen? ⟨w.heap.size + 1 + 1, 2, none⟩ = false := (HB2.out).rx.fr 2
    have z3 : (w2).cell? ⟨w.heap.size + 1 + 1, 3, none⟩ = some (.slice none 0 0) := (HB2.out).rx.at_ rfl
    have y3 : (w2).frozen? ⟨w.heap.size + 1 + 1, 3, none⟩ = false := (HB2.out).rx.fr 3
    have HX1 := Lib.hid (And.intro hx1 (And.intro hx2 (And.intro hx3 hx4)))
    have HWX1 := Lib.hid hX1
    clear hx1 hx2 hx3 hx4 hX1
    go_wp2_with fail
    rw [HWX1.out]
    refine ⟨rfl, hS1, ?_⟩
    show G.wpLexE _ _ _ _ _ _ _ _ _
    refine G.wpLexE_effg (by kernel_rfl) rfl ?_
    clear z0 z1 z2 z3 y0 y1 y2 y3
    obtain ⟨X2, hX2⟩ : ∃ z, ((((((((((((X1.setCell ⟨w.heap.size + 1 + 1 + 1, 0, none⟩ (.int .i64 p.ag)).setCell ⟨w.heap.size + 1 + 1 + 1, 1, none⟩ (.int .i64 p.aa)).setCell ⟨w.heap.size + 1 + 1 + 1, 2, none⟩ (.int .i64 p.bg)).setCell ⟨w.heap.size + 1 + 1 + 1, 3, none⟩ (.int .i64 p.ba)).setCell ⟨w.heap.size + 1 + 1 + 1, 4, none⟩ (.bool p.two)).setCell ⟨w.heap.size + 1 + 1 + 1, 5, none⟩ (.int .i64 p.size)).setCell ⟨w.heap.size + 1 + 1 + 1, 6, none⟩ (.int .i64 p.level)).setCell ⟨w.heap.size + 1 + 1 + 1, 7, none⟩ (.int .i64 p.birth)).setCell ⟨w.heap.size + 1 + 1 + 1, 8, none⟩ (.int .u64 p.s0)).setCell ⟨w.heap.size + 1 + 1 + 1, 9, none⟩ (.int .u64 p.s1)).setCell ⟨w.heap.size + 1 + 1 + 1, 10, none⟩ (.int .u64 p.s2)).setCell ⟨w.heap.size + 1 + 1 + 1, 11, none⟩ (.int .u64 p.s3)) = z := ⟨_, rfl⟩
    have hX2' : X1.setCells (w.heap.size + 1 + 1 + 1) 0 [.int .i64 p.ag, .int .i64 p.aa, .int .i64 p.bg, .int .i64 p.ba, .bool p.two, .int .i64 p.size, .int .i64 p.level, .int .i64 p.birth, .int .u64 p.s0, .int .u64 p.s1, .int .u64 p.s2, .int .u64 p.s3] = X2 := hX2
    have hq1 : Blk X2 (w.heap.size + 1 + 1 + 1) 31 #[.int .i64 p.ag, .int .i64 p.aa, .int .i64 p.bg, .int .i64 p.ba, .bool p.two, .int .i64 p.size, .int .i64 p.level, .int .i64 p.birth, .int .u64 p.s0, .int .u64 p.s1, .int .u64 p.s2, .int .u64 p.s3] := by rw [← hX2']; exact HX1.out.2.1.putAll #[.int .i64 p.ag, .int .i64 p.aa, .int .i64 p.bg, .int .i64 p.ba, .bool p.two, .int .i64 p.size, .int .i64 p.level, .int .i64 p.birth, .int .u64 p.s0, .int .u64 p.s1, .int .u64 p.s2, .int .u64 p.s3] rfl
    have hq2 : ∀ g, g ≠ w.heap.size + 1 + 1 + 1 → X2.heap[g]? = X1.heap[g]? := fun g hg => by rw [← hX2']; exact sets_far' (w := X1) hg _ _ _
    have hq6 : Below 0 X1 X2 := by rw [← hX2']; exact below_sets _ _ (Below.refl _ _) (Nat.zero_le _)
    have hq5 : Only (fun g => g = w.heap.size + 1 + 1 ∨ g = w.heap.size + 1 + 1 + 1) X1 X2 := ⟨hq6.os, hq6.tape, hq6.output, hq6.size, fun i _ hn => hq2 i (fun e => hn (.inr e))⟩
    have hS2 : S0 X2 := by rw [HS0.out]; exact fun g h1 h2 => (hq2 g h2).trans (HX1.out.2.2.1 g h1)
    have hr1 : Blk X2 (w.heap.size + 1 + 1) 37 #[.slice none 0 0, .int .i64 0, .slice none 0 0, .slice none 0 0] := (hq2 _ (by omega)).trans HX1.out.1
    have z0 := HX1.out.2.1.at_ (i := 0) (v := .int .i64 0) rfl
    have y0 := HX1.out.2.1.fr 0
    have z1 := HX1.out.2.1.at_ (i := 1) (v := .int .i64 0) rfl
    have y1 := HX1.out.2.1.fr 1
    have z2 := HX1.out.2.1.at_ (i := 2) (v := .int .i64 0) rfl
    have y2 := HX1.out.2.1.fr 2
    have z3 := HX1.out.2.1.at_ (i := 3) (v := .int .i64 0) rfl
    have y3 := HX1.out.2.1.fr 3
    have z4 := HX1.out.2.1.at_ (i := 4) (v := .bool false) rfl
    have y4 := HX1.out.2.1.fr 4
    have z5 := HX1.out.2.1.at_ (i := 5) (v := .int .i64 0) rfl
    have y5 := HX1.out.2.1.fr 5
    have z6 := HX1.out.2.1.at_ (i := 6) (v := .int .i64 0) rfl
    have y6 := HX1.out.2.1.fr 6
    have z7 := HX1.out.2.1.at_ (i := 7) (v := .int .i64 0) rfl
    have y7 := HX1.out.2.1.fr 7
    have z8 := HX1.out.2.1.at_ (i := 8) (v := .int .u64 0) rfl
    have y8 := HX1.out.2.1.fr 8
    have z9 := HX1.out.2.1.at_ (i := 9) (v := .int .u64 0) rfl
    have y9 := HX1.out.2.1.fr 9
    have z10 := HX1.out.2.1.at_ (i := 10) (v := .int .u64 0) rfl
    have y10 := HX1.out.2.1.fr 10
    have z11 := HX1.out.2.1.at_ (i := 11) (v := .int .u64 0) rfl
    have y11 := HX1.out.2.1.fr 11
    have HR := Lib.hid (And.intro hr1 (And.intro hq1 (HX1.out.2.2.2.trans hq5 (fun g hg => .inl hg))))
    have HWX2 := Lib.hid hX2
    clear hr1 hq1 hq2 hq5 hq6 hX2 hX2' HWX1
    go_wp2_with fail
    rw [HWX2.out]
    refine ⟨rfl, hS2, ?_⟩
    show wpList _ _ _ _ _ _
    clear hS1 hS2
    clear z0 y0 z1 y1 z2 y2 z3 y3 z4 y4 z5 y5 z6 y6 z7 y7 z8 y8 z9 y9 z10 y10 z11 y11
    go_wp2_with fail
    have e0 := HR.out.1.at_ (i := 0) (v := .slice none 0 0) rfl
    have e1 := HR.out.1.at_ (i := 1) (v := .int .i64 0) rfl
    have e2 := HR.out.1.at_ (i := 2) (v := .slice none 0 0) rfl
    have e3 := HR.out.1.at_ (i := 3) (v := .slice none 0 0) rfl
    have e4 := HR.out.2.1.at_ (i := 0) (v := .int .i64 p.ag) rfl
    have e5 := HR.out.2.1.at_ (i := 1) (v := .int .i64 p.aa) rfl
    have e6 := HR.out.2.1.at_ (i := 2) (v := .int .i64 p.bg) rfl
    have e7 := HR.out.2.1.at_ (i := 3) (v := .int .i64 p.ba) rfl
    have e8 := HR.out.2.1.at_ (i := 4) (v := .bool p.two) rfl
    have e9 := HR.out.2.1.at_ (i := 5) (v := .int .i64 p.size) rfl
    have e10 := HR.out.2.1.at_ (i := 6) (v := .int .i64 p.level) rfl
    have e11 := HR.out.2.1.at_ (i := 7) (v := .int .i64 p.birth) rfl
    have e12 := HR.out.2.1.at_ (i := 8) (v := .int .u64 p.s0) rfl
    have e13 := HR.out.2.1.at_ (i := 9) (v := .int .u64 p.s1) rfl
    have e14 := HR.out.2.1.at_ (i := 10) (v := .int .u64 p.s2) rfl
    have e15 := HR.out.2.1.at_ (i := 11) (v := .int .u64 p.s3) rfl
    refine bodyPost_ret (v := .tuple #[.agg #[.slice none 0 0, .int .i64 0, .slice none 0 0, .slice none 0 0], .agg #[.int .i64 p.ag, .int .i64 p.aa, .int .i64 p.bg, .int .i64 p.ba, .bool p.two, .int .i64 p.size, .int .i64 p.level, .int .i64 p.birth, .int .u64 p.s0, .int .u64 p.s1, .int .u64 p.s2, .int .u64 p.s3], .slice none 0 0, .bool false]) (by simp [results, Tryz.f9, go_sem, e0, e1, e2, e3, e4, e5, e6, e7, e8, e9, e10, e11, e12, e13, e14, e15]) rfl ?_
    unfold LdPost
    rw [if_neg HNO.out]
    exact ⟨_, p, rfl, .inl rfl, HD2.out.trans (HR.out.2.2.below HD2.out.size (fun g hg => by omega))⟩
  · have hd1 : decide ((1000 : Int) < s.length) = false := decide_eq_false (by omega)
    have hd2 : ((s.length : Int) % 64 != 0) = true := by rw [bne_iff_ne]; omega
    clear h1 hbad
    go_wp2_with fail
    rw [HW2.out]
    refine G.wp_region_eff S0 [2, 3] 4 (by kernel_rfl) (by kernel_rfl) (by kernel_rfl) hSw ?_
    simp only [List.take_succ_cons, List.take_zero, List.drop_succ_cons, List.drop_zero]
    refine G.wpLexE_take 2 (by kernel_rfl) (by kernel_rfl) ?_
    simp only [List.take_succ_cons, List.take_zero, List.drop_succ_cons, List.drop_zero]
    repeat (first
     | go_big_quiet_skip
     | (go_big_quiet_want; refine quiet_build 37 #[] (by rfl) _ rfl (.agg vZ) build_devs0 ?_; simp only [Act.put, List.setIfInBounds_toArray, List.set_cons_zero, List.set_cons_succ]; go_big_quiet_on)
     | (go_big_quiet_want
        go_big_quiet_op
        first
         | go_big_quiet_on
         | (apply Exists.intro
            refine ⟨fun W hW => ?_, ?_⟩
            · first
               | exact rfl
               | exact ⟨rfl, rfl⟩
               | (have e0 := f4 W hW; have e1 := f5 W hW; have e2 := f6 W hW; have e3 := f7 W hW; have e4 := f8 W hW; have e5 := f9 W hW; have e6 := f10 W hW; have e7 := f11 W hW; have e8 := f12 W hW; have e9 := f13 W hW; have e10 := f14 W hW; have e11 := f15 W hW; simp only [e0, e1, e2, e3, e4, e5, e6, e7, e8, e9, e10, e11, Result.andThen_ok]; done)
               | (have e0 := f4 W hW; have e1 := f5 W hW; have e2 := f6 W hW; have e3 := f7 W hW; have e4 := f8 W hW; have e5 := f9 W hW; have e6 := f10 W hW; have e7 := f11 W hW; have e8 := f12 W hW; have e9 := f13 W hW; have e10 := f14 W hW; have e11 := f15 W hW; simp only [e0, e1, e2, e3, e4, e5, e6, e7, e8, e9, e10, e11, Result.andThen_ok]; first | exact ⟨trivial, rfl⟩ | exact rfl | exact ⟨rfl, rfl⟩)
               | (skip)
            go_big_quiet_on)))
    refine wpQuiet_nil ?_
    clear f4 f5 f6 f7 f8 f9 f10 f11 f12 f13 f14 f15
    show G.wpLexE _ _ _ _ _ _ _ _ _
    refine G.wpLexE_effg (by kernel_rfl) rfl ?_
    obtain ⟨X1, hX1⟩ : ∃ z, (((((w2).setCell ⟨w.heap.size + 1 + 1, 0, none⟩ (.slice none 0 0)).setCell ⟨w.heap.size + 1 + 1, 1, none⟩ (.int .i64 0)).setCell ⟨w.heap.size + 1 + 1, 2, none⟩ (.slice none 0 0)).setCell ⟨w.heap.size + 1 + 1, 3, none⟩ (.slice none 0 0)).drew = z := ⟨_, rfl⟩
    have hx1 : Blk X1 (w.heap.size + 1 + 1) 37 #[.slice none 0 0, .int .i64 0, .slice none 0 0, .slice none 0 0] := by rw [← hX1]; exact (((((HB2.out).rx).put 0 (.slice none 0 0)).put 1 (.int .i64 0)).put 2 (.slice none 0 0)).put 3 (.slice none 0 0)
    have hx2 : Blk X1 (w.heap.size + 1 + 1 + 1) 31 #[.int .i64 0, .int .i64 0, .int .i64 0, .int .i64 0, .bool false, .int .i64 0, .int .i64 0, .int .i64 0, .int .u64 0, .int .u64 0, .int .u64 0, .int .u64 0] := by
     rw [← hX1]
     show Blk (((((_ : World).setCell _ _).setCell _ _).setCell _ _).setCell _ _) _ _ _
     refine Blk.far (Blk.far (Blk.far (Blk.far (HB2.out).rp ?_ _) ?_ _) ?_ _) ?_ _
     all_goals (intro hh; dsimp only at hh; omega)
    have hx3 : ∀ g, g ≠ w.heap.size + 1 + 1 → X1.heap[g]? = (w2).heap[g]? := fun g hg => by
     rw [← hX1]
     show (((((_ : World).setCell _ _).setCell _ _).setCell _ _).setCell _ _).heap[g]? = _
     rw [Below.heap_setCell _ _ _ g hg, Below.heap_setCell _ _ _ g hg, Below.heap_setCell _ _ _ g hg, Below.heap_setCell _ _ _ g hg]
    have hx4 : Only (fun g => g = w.heap.size + 1 + 1 ∨ g = w.heap.size + 1 + 1 + 1) (w2) X1 := by
     rw [← hX1]
     have hT : ∀ o, (fun g => g = w.heap.size + 1 + 1 ∨ g = w.heap.size + 1 + 1 + 1) (⟨w.heap.size + 1 + 1, o, none⟩ : Addr).block ∨ (w2).heap.size ≤ (⟨w.heap.size + 1 + 1, o, none⟩ : Addr).block := fun o => .inl (.inl rfl)
     exact (((((Only.refl (fun g => g = w.heap.size + 1 + 1 ∨ g = w.heap.size + 1 + 1 + 1) (w2)).set (hT 0) _).set (hT 1) _).set (hT 2) _).set (hT 3) _).drew
    have hS1 : S0 X1 := by rw [HS0.out]; exact fun g h1 _ => hx3 g h1
    have z0 : (w2).cell? ⟨w.heap.size + 1 + 1, 0, none⟩ = some (.slice none 0 0) := (HB2.out).rx.at_ rfl
    have y0 : (w2).frozen? ⟨w.heap.size + 1 + 1, 0, none⟩ = false := (HB2.out).rx.fr 0
    have z1 : (w2).cell? ⟨w.heap.size + 1 + 1, 1, none⟩ = some (.int .i64 0) := (HB2.out).rx.at_ rfl
    have y1 : (w2).frozen? ⟨w.heap.size + 1 + 1, 1, none⟩ = false := (HB2.out).rx.fr 1
    have z2 : (w2).cell? ⟨w.heap.size + 1 + 1, 2, none⟩ = some (.slice none 0 0) := (HB2.out).rx.at_ rfl
    have y2 : (w2).frozen? ⟨w.heap.size + 1 + 1, 2, none⟩ = false := (HB2.out).rx.fr 2
    have z3 : (w2).cell? ⟨w.heap.size + 1 + 1, 3, none⟩ = some (.slice none 0 0) := (HB2.out).rx.at_ rfl
    have y3 : (w2).frozen? ⟨w.heap.size + 1 + 1, 3, none⟩ = false := (HB2.out).rx.fr 3
    have HX1 := Lib.hid (And.intro hx1 (And.intro hx2 (And.intro hx3 hx4)))
    have HWX1 := Lib.hid hX1
    clear hx1 hx2 hx3 hx4 hX1
    go_wp2_with fail
    rw [HWX1.out]
    refine ⟨rfl, hS1, ?_⟩
    show G.wpLexE _ _ _ _ _ _ _ _ _
    refine G.wpLexE_effg (by kernel_rfl) rfl ?_
    clear z0 z1 z2 z3 y0 y1 y2 y3
    obtain ⟨X2, hX2⟩ : ∃ z, ((((((((((((X1.setCell ⟨w.heap.size + 1 + 1 + 1, 0, none⟩ (.int .i64 p.ag)).setCell ⟨w.heap.size + 1 + 1 + 1, 1, none⟩ (.int .i64 p.aa)).setCell ⟨w.heap.size + 1 + 1 + 1, 2, none⟩ (.int .i64 p.bg)).setCell ⟨w.heap.size + 1 + 1 + 1, 3, none⟩ (.int .i64 p.ba)).setCell ⟨w.heap.size + 1 + 1 + 1, 4, none⟩ (.bool p.two)).setCell ⟨w.heap.size + 1 + 1 + 1, 5, none⟩ (.int .i64 p.size)).setCell ⟨w.heap.size + 1 + 1 + 1, 6, none⟩ (.int .i64 p.level)).setCell ⟨w.heap.size + 1 + 1 + 1, 7, none⟩ (.int .i64 p.birth)).setCell ⟨w.heap.size + 1 + 1 + 1, 8, none⟩ (.int .u64 p.s0)).setCell ⟨w.heap.size + 1 + 1 + 1, 9, none⟩ (.int .u64 p.s1)).setCell ⟨w.heap.size + 1 + 1 + 1, 10, none⟩ (.int .u64 p.s2)).setCell ⟨w.heap.size + 1 + 1 + 1, 11, none⟩ (.int .u64 p.s3)) = z := ⟨_, rfl⟩
    have hX2' : X1.setCells (w.heap.size + 1 + 1 + 1) 0 [.int .i64 p.ag, .int .i64 p.aa, .int .i64 p.bg, .int .i64 p.ba, .bool p.two, .int .i64 p.size, .int .i64 p.level, .int .i64 p.birth, .int .u64 p.s0, .int .u64 p.s1, .int .u64 p.s2, .int .u64 p.s3] = X2 := hX2
    have hq1 : Blk X2 (w.heap.size + 1 + 1 + 1) 31 #[.int .i64 p.ag, .int .i64 p.aa, .int .i64 p.bg, .int .i64 p.ba, .bool p.two, .int .i64 p.size, .int .i64 p.level, .int .i64 p.birth, .int .u64 p.s0, .int .u64 p.s1, .int .u64 p.s2, .int .u64 p.s3] := by rw [← hX2']; exact HX1.out.2.1.putAll #[.int .i64 p.ag, .int .i64 p.aa, .int .i64 p.bg, .int .i64 p.ba, .bool p.two, .int .i64 p.size, .int .i64 p.level, .int .i64 p.birth, .int .u64 p.s0, .int .u64 p.s1, .int .u64 p.s2, .int .u64 p.s3] rfl
    have hq2 : ∀ g, g ≠ w.heap.size + 1 + 1 + 1 → X2.heap[g]? = X1.heap[g]? := fun g hg => by rw [← hX2']; exact sets_far' (w := X1) hg _ _ _
    have hq6 : Below 0 X1 X2 := by rw [← hX2']; exact below_sets _ _ (Below.refl _ _) (Nat.zero_le _)
    have hq5 : Only (fun g => g = w.heap.size + 1 + 1 ∨ g = w.heap.size + 1 + 1 + 1) X1 X2 := ⟨hq6.os, hq6.tape, hq6.output, hq6.size, fun i _ hn => hq2 i (fun e => hn (.inr e))⟩
    have hS2 : S0 X2 := by rw [HS0.out]; exact fun g h1 h2 => (hq2 g h2).trans (HX1.out.2.2.1 g h1)
    have hr1 : Blk X2 (w.heap.size + 1 + 1) 37 #[.slice none 0 0, .int .i64 0, .slice none 0 0, .slice none 0 0] := (hq2 _ (by omega)).trans HX1.out.1
    have z0 := HX1.out.2.1.at_ (i := 0) (v := .int .i64 0) rfl
    have y0 := HX1.out.2.1.fr 0
    have z1 := HX1.out.2.1.at_ (i := 1) (v := .int .i64 0) rfl
    have y1 := HX1.out.2.1.fr 1
    have z2 := HX1.out.2.1.at_ (i := 2) (v := .int .i64 0) rfl
    have y2 := HX1.out.2.1.fr 2
    have z3 := HX1.out.2.1.at_ (i := 3) (v := .int .i64 0) rfl
    have y3 := HX1.out.2.1.fr 3
    have z4 := HX1.out.2.1.at_ (i := 4) (v := .bool false) rfl
    have y4 := HX1.out.2.1.fr 4
    have z5 := HX1.out.2.1.at_ (i := 5) (v := .int .i64 0) rfl
    have y5 := HX1.out.2.1.fr 5
    have z6 := HX1.out.2.1.at_ (i := 6) (v := .int .i64 0) rfl
    have y6 := HX1.out.2.1.fr 6
    have z7 := HX1.out.2.1.at_ (i := 7) (v := .int .i64 0) rfl
    have y7 := HX1.out.2.1.fr 7
    have z8 := HX1.out.2.1.at_ (i := 8) (v := .int .u64 0) rfl
    have y8 := HX1.out.2.1.fr 8
    have z9 := HX1.out.2.1.at_ (i := 9) (v := .int .u64 0) rfl
    have y9 := HX1.out.2.1.fr 9
    have z10 := HX1.out.2.1.at_ (i := 10) (v := .int .u64 0) rfl
    have y10 := HX1.out.2.1.fr 10
    have z11 := HX1.out.2.1.at_ (i := 11) (v := .int .u64 0) rfl
    have y11 := HX1.out.2.1.fr 11
    have HR := Lib.hid (And.intro hr1 (And.intro hq1 (HX1.out.2.2.2.trans hq5 (fun g hg => .inl hg))))
    have HWX2 := Lib.hid hX2
    clear hr1 hq1 hq2 hq5 hq6 hX2 hX2' HWX1
    go_wp2_with fail
    rw [HWX2.out]
    refine ⟨rfl, hS2, ?_⟩
    show wpList _ _ _ _ _ _
    clear hS1 hS2
    clear z0 y0 z1 y1 z2 y2 z3 y3 z4 y4 z5 y5 z6 y6 z7 y7 z8 y8 z9 y9 z10 y10 z11 y11
    go_wp2_with fail
    have e0 := HR.out.1.at_ (i := 0) (v := .slice none 0 0) rfl
    have e1 := HR.out.1.at_ (i := 1) (v := .int .i64 0) rfl
    have e2 := HR.out.1.at_ (i := 2) (v := .slice none 0 0) rfl
    have e3 := HR.out.1.at_ (i := 3) (v := .slice none 0 0) rfl
    have e4 := HR.out.2.1.at_ (i := 0) (v := .int .i64 p.ag) rfl
    have e5 := HR.out.2.1.at_ (i := 1) (v := .int .i64 p.aa) rfl
    have e6 := HR.out.2.1.at_ (i := 2) (v := .int .i64 p.bg) rfl
    have e7 := HR.out.2.1.at_ (i := 3) (v := .int .i64 p.ba) rfl
    have e8 := HR.out.2.1.at_ (i := 4) (v := .bool p.two) rfl
    have e9 := HR.out.2.1.at_ (i := 5) (v := .int .i64 p.size) rfl
    have e10 := HR.out.2.1.at_ (i := 6) (v := .int .i64 p.level) rfl
    have e11 := HR.out.2.1.at_ (i := 7) (v := .int .i64 p.birth) rfl
    have e12 := HR.out.2.1.at_ (i := 8) (v := .int .u64 p.s0) rfl
    have e13 := HR.out.2.1.at_ (i := 9) (v := .int .u64 p.s1) rfl
    have e14 := HR.out.2.1.at_ (i := 10) (v := .int .u64 p.s2) rfl
    have e15 := HR.out.2.1.at_ (i := 11) (v := .int .u64 p.s3) rfl
    refine bodyPost_ret (v := .tuple #[.agg #[.slice none 0 0, .int .i64 0, .slice none 0 0, .slice none 0 0], .agg #[.int .i64 p.ag, .int .i64 p.aa, .int .i64 p.bg, .int .i64 p.ba, .bool p.two, .int .i64 p.size, .int .i64 p.level, .int .i64 p.birth, .int .u64 p.s0, .int .u64 p.s1, .int .u64 p.s2, .int .u64 p.s3], .slice none 0 0, .bool false]) (by simp [results, Tryz.f9, go_sem, e0, e1, e2, e3, e4, e5, e6, e7, e8, e9, e10, e11, e12, e13, e14, e15]) rfl ?_
    unfold LdPost
    rw [if_neg HNO.out]
    exact ⟨_, p, rfl, .inl rfl, HD2.out.trans (HR.out.2.2.below HD2.out.size (fun g hg => by omega))⟩
 case pos =>
  have hd1 : decide ((1000 : Int) < s.length) = false := decide_eq_false (by omega)
  have hd2 : ((s.length : Int) % 64 != 0) = false := by
   have : (s.length : Int) % 64 = 0 := by omega
   rw [this]
   rfl
  have HG2 := Lib.hid (HG.out.below HD2.out (Nat.le_refl _))
  have g0 := HB2.out.g.at_ (i := 0) (v := .slice A m c) rfl
  have g1 := HB2.out.g.at_ (i := 1) (v := .int .i64 secs) rfl
  rw [← HW2.out] at g0 g1
  cases hr : (gRight gs secs && decide (secs ≤ 200)) with
  | false =>
   have HNO : Hid (¬ (s.length ≤ 1000 ∧ s.length % 64 = 0 ∧ gRight gs secs = true ∧ secs ≤ 200 ∧ rightB gs secs (withSum p s) = true)) := Lib.hid fun h => by
    rw [h.2.2.1, decide_eq_true h.2.2.2.1] at hr
    cases hr
   have HDV := Lib.hid (devices_bad (c := c) HG2.out hr (.slice none 0 0) (.slice none 0 0))
   clear hr
   go_wp2_with fail
   rw [HW2.out]
   refine HDV.out.mono ?_
   rintro e w3 ⟨rfl, hb3⟩
   clear g0 g1 hd1 hd2
   have hB3 := HB2.out.below hb3
   have hs3 : w.heap.size + 3 < w3.heap.size := hB3.rp.lt
   obtain ⟨w4, hw4⟩ : ∃ z, w3.alloc (.cells vZ 37) = z := ⟨_, rfl⟩
   have hX4 : Blk w4 w3.heap.size 37 vZ := by rw [← hw4]; exact Blk.new _ _ _
   have hb34 : Below w3.heap.size w3 w4 := by rw [← hw4]; exact keep_alloc (Below.refl _ _) _
   have hB4 := hB3.below hb34
   have z5 := hB4.p.at_ (i := 5) (v := .int .i64 p.size) rfl
   have y5 := hB4.p.fr 5
   rw [← hw4] at z5 y5
   obtain ⟨w5, hw5⟩ : ∃ z, w4.setCell ⟨w.heap.size + 1, 5, none⟩ (.int .i64 (secN s)) = z := ⟨_, rfl⟩
   have hB5 : LdB w w5 A m c secs { p with size := secN s } := by
    rw [← hw5]
    exact ⟨hB4.g.far (by intro hh; dsimp only at hh; omega) _, hB4.p.put 5 (.int .i64 (secN s)), hB4.rx.far (by intro hh; dsimp only at hh; omega) _, hB4.rp.far (by intro hh; dsimp only at hh; omega) _⟩
   have hX5 : Blk w5 w3.heap.size 37 vZ := by rw [← hw5]; exact hX4.far (by intro hh; dsimp only at hh; omega) _
   have ho5 : Only (fun g => g = w.heap.size + 1) w3 w5 := by
    rw [← hw5]
    have hT : (fun g => g = w.heap.size + 1) (⟨w.heap.size + 1, 5, none⟩ : Addr).block ∨ w3.heap.size ≤ (⟨w.heap.size + 1, 5, none⟩ : Addr).block := .inl rfl
    exact (Only.of_below (S := fun g => g = w.heap.size + 1) hb34).set hT _
   rw [← hw4] at hw5
   have HFS := Lib.hid (fsum_any s (by omega) w5)
   have hq : Int.tdiv (s.length : Int) 64 = (secN s : Int) := rfl
   have HS3 := Lib.hid hs3
   have HB5 := Lib.hid (And.intro hB5 (And.intro hX5 ho5))
   have HW5 := Lib.hid hw5
   have HB3 := Lib.hid hb3
   have hs15 : secN s ≤ 15 := by unfold secN; omega
   clear hB3 hs3 hw4 hX4 hb34 hB4 hB5 hX5 ho5 hw5 hb3
   go_wp2_with fail
   rw [HW5.out]
   refine HFS.out.mono ?_
   rintro e w6 ⟨rfl, hb6⟩
   clear z5 y5 hq
   have hB6 := HB5.out.1.below hb6
   have hX6 := HB5.out.2.1.below hb6 HB5.out.2.1.lt
   have z8 := hB6.p.at_ (i := 8) (v := .int .u64 p.s0) rfl
   have z9 := hB6.p.at_ (i := 9) (v := .int .u64 p.s1) rfl
   have z10 := hB6.p.at_ (i := 10) (v := .int .u64 p.s2) rfl
   have z11 := hB6.p.at_ (i := 11) (v := .int .u64 p.s3) rfl
   have y8 := hB6.p.fr 8
   have y9 := hB6.p.fr 9
   have y10 := hB6.p.fr 10
   have y11 := hB6.p.fr 11
   obtain ⟨w7, hw7⟩ : ∃ z, (((w6.setCell ⟨w.heap.size + 1, 8, none⟩ (.int .u64 (fsum s).1)).setCell ⟨w.heap.size + 1, 9, none⟩ (.int .u64 (fsum s).2.1)).setCell ⟨w.heap.size + 1, 10, none⟩ (.int .u64 (fsum s).2.2.1)).setCell ⟨w.heap.size + 1, 11, none⟩ (.int .u64 (fsum s).2.2.2) = z := ⟨_, rfl⟩
   obtain ⟨qd, hqd⟩ : ∃ qd, withSum p s = qd := ⟨_, rfl⟩
   have hfar : ∀ {g : Nat} {t : TypeId} {cs : Array Value}, Blk w6 g t cs → g ≠ w.heap.size + 1 → Blk w7 g t cs := fun {g t cs} h hg => by
    rw [← hw7]
    exact (((h.far hg _).far hg _).far hg _).far hg _
   have hB7 : LdB w w7 A m c secs qd := by
    refine ⟨hfar hB6.g (by omega), ?_, hfar hB6.rx (by omega), hfar hB6.rp (by omega)⟩
    rw [← hw7, ← hqd]
    exact (((hB6.p.put 8 (.int .u64 (fsum s).1)).put 9 (.int .u64 (fsum s).2.1)).put 10 (.int .u64 (fsum s).2.2.1)).put 11 (.int .u64 (fsum s).2.2.2)
   have hX7 : Blk w7 w3.heap.size 37 vZ := hfar hX6 (by have := HS3.out; omega)
   have ho7 : Only (fun g => g = w.heap.size + 1) w3 w7 := by
    rw [← hw7]
    have hT : ∀ o, (fun g => g = w.heap.size + 1) (⟨w.heap.size + 1, o, none⟩ : Addr).block ∨ w3.heap.size ≤ (⟨w.heap.size + 1, o, none⟩ : Addr).block := fun o => .inl rfl
    exact ((((HB5.out.2.2.then_below hb6).set (hT 8) _).set (hT 9) _).set (hT 10) _).set (hT 11) _
   have HB7 := Lib.hid (And.intro hB7 (And.intro hX7 ho7))
   have HW7 := Lib.hid hw7
   have HQD := Lib.hid hqd
   have HD3 := Lib.hid (keep_below HB3.out HD2.out)
   clear hb6 hB6 hX6 hw7 hqd hfar hB7 hX7 ho7
   go_wp2_with fail
   rw [HW7.out]
   clear z8 z9 z10 z11 y8 y9 y10 y11
   obtain ⟨S0, hS0⟩ : ∃ S0 : World → Prop, S0 = fun X => ∀ g : Nat, g ≠ w.heap.size + 1 + 1 → g ≠ w.heap.size + 1 + 1 + 1 → X.heap[g]? = (w7).heap[g]? := ⟨_, rfl⟩
   have hSw : S0 (w7).drew := by rw [hS0]; exact fun _ _ _ => rfl
   have f4 : ∀ X, S0 X → X.cell? ⟨w.heap.size + 1, 0, none⟩ = some (.int .i64 qd.ag) := fun X h => by rw [hS0] at h; exact (cell_same' (h _ (by omega) (by omega))).trans ((HB7.out.1).p.at_ rfl)
   have f5 : ∀ X, S0 X → X.cell? ⟨w.heap.size + 1, 1, none⟩ = some (.int .i64 qd.aa) := fun X h => by rw [hS0] at h; exact (cell_same' (h _ (by omega) (by omega))).trans ((HB7.out.1).p.at_ rfl)
   have f6 : ∀ X, S0 X → X.cell? ⟨w.heap.size + 1, 2, none⟩ = some (.int .i64 qd.bg) := fun X h => by rw [hS0] at h; exact (cell_same' (h _ (by omega) (by omega))).trans ((HB7.out.1).p.at_ rfl)
   have f7 : ∀ X, S0 X → X.cell? ⟨w.heap.size + 1, 3, none⟩ = some (.int .i64 qd.ba) := fun X h => by rw [hS0] at h; exact (cell_same' (h _ (by omega) (by omega))).trans ((HB7.out.1).p.at_ rfl)
   have f8 : ∀ X, S0 X → X.cell? ⟨w.heap.size + 1, 4, none⟩ = some (.bool qd.two) := fun X h => by rw [hS0] at h; exact (cell_same' (h _ (by omega) (by omega))).trans ((HB7.out.1).p.at_ rfl)
   have f9 : ∀ X, S0 X → X.cell? ⟨w.heap.size + 1, 5, none⟩ = some (.int .i64 qd.size) := fun X h => by rw [hS0] at h; exact (cell_same' (h _ (by omega) (by omega))).trans ((HB7.out.1).p.at_ rfl)
   have f10 : ∀ X, S0 X → X.cell? ⟨w.heap.size + 1, 6, none⟩ = some (.int .i64 qd.level) := fun X h => by rw [hS0] at h; exact (cell_same' (h _ (by omega) (by omega))).trans ((HB7.out.1).p.at_ rfl)
   have f11 : ∀ X, S0 X → X.cell? ⟨w.heap.size + 1, 7, none⟩ = some (.int .i64 qd.birth) := fun X h => by rw [hS0] at h; exact (cell_same' (h _ (by omega) (by omega))).trans ((HB7.out.1).p.at_ rfl)
   have f12 : ∀ X, S0 X → X.cell? ⟨w.heap.size + 1, 8, none⟩ = some (.int .u64 qd.s0) := fun X h => by rw [hS0] at h; exact (cell_same' (h _ (by omega) (by omega))).trans ((HB7.out.1).p.at_ rfl)
   have f13 : ∀ X, S0 X → X.cell? ⟨w.heap.size + 1, 9, none⟩ = some (.int .u64 qd.s1) := fun X h => by rw [hS0] at h; exact (cell_same' (h _ (by omega) (by omega))).trans ((HB7.out.1).p.at_ rfl)
   have f14 : ∀ X, S0 X → X.cell? ⟨w.heap.size + 1, 10, none⟩ = some (.int .u64 qd.s2) := fun X h => by rw [hS0] at h; exact (cell_same' (h _ (by omega) (by omega))).trans ((HB7.out.1).p.at_ rfl)
   have f15 : ∀ X, S0 X → X.cell? ⟨w.heap.size + 1, 11, none⟩ = some (.int .u64 qd.s3) := fun X h => by rw [hS0] at h; exact (cell_same' (h _ (by omega) (by omega))).trans ((HB7.out.1).p.at_ rfl)
   have HS0 := Lib.hid hS0
   clear hS0
   have f0 : ∀ X, S0 X → X.cell? ⟨w3.heap.size, 0, none⟩ = some (.slice none 0 0) := fun X h => by rw [HS0.out] at h; exact (cell_same' (h _ (by have := HS3.out; omega) (by have := HS3.out; omega))).trans ((HB7.out.2.1).at_ rfl)
   have f1 : ∀ X, S0 X → X.cell? ⟨w3.heap.size, 1, none⟩ = some (.int .i64 0) := fun X h => by rw [HS0.out] at h; exact (cell_same' (h _ (by have := HS3.out; omega) (by have := HS3.out; omega))).trans ((HB7.out.2.1).at_ rfl)
   have f2 : ∀ X, S0 X → X.cell? ⟨w3.heap.size, 2, none⟩ = some (.slice none 0 0) := fun X h => by rw [HS0.out] at h; exact (cell_same' (h _ (by have := HS3.out; omega) (by have := HS3.out; omega))).trans ((HB7.out.2.1).at_ rfl)
   have f3 : ∀ X, S0 X → X.cell? ⟨w3.heap.size, 3, none⟩ = some (.slice none 0 0) := fun X h => by rw [HS0.out] at h; exact (cell_same' (h _ (by have := HS3.out; omega) (by have := HS3.out; omega))).trans ((HB7.out.2.1).at_ rfl)
   refine G.wp_region_eff S0 [2, 3] 4 (by kernel_rfl) (by kernel_rfl) (by kernel_rfl) hSw ?_
   simp only [List.take_succ_cons, List.take_zero, List.drop_succ_cons, List.drop_zero]
   refine G.wpLexE_take 2 (by kernel_rfl) (by kernel_rfl) ?_
   simp only [List.take_succ_cons, List.take_zero, List.drop_succ_cons, List.drop_zero]
   repeat (first | go_big_quiet_skip | (go_big_quiet_want; go_big_quiet_op; first | go_big_quiet_on | (apply Exists.intro; refine ⟨fun W hW => ?_, ?_⟩; (focus ((first | exact rfl | exact ⟨rfl, rfl⟩ | (simp only [f0 W hW, f1 W hW, f2 W hW, f3 W hW, f4 W hW, f5 W hW, f6 W hW, f7 W hW, f8 W hW, f9 W hW, f10 W hW, f11 W hW, f12 W hW, f13 W hW, f14 W hW, f15 W hW, Result.andThen_ok]; first | done | exact ⟨trivial, rfl⟩ | exact rfl | exact ⟨rfl, rfl⟩) | (skip)); done)); go_big_quiet_on)))
   refine wpQuiet_nil ?_
   clear f0 f1 f2 f3 f4 f5 f6 f7 f8 f9 f10 f11 f12 f13 f14 f15
   show G.wpLexE _ _ _ _ _ _ _ _ _
   refine G.wpLexE_effg (by kernel_rfl) rfl ?_
   obtain ⟨X1, hX1⟩ : ∃ z, (((((w7).setCell ⟨w.heap.size + 1 + 1, 0, none⟩ (.slice none 0 0)).setCell ⟨w.heap.size + 1 + 1, 1, none⟩ (.int .i64 0)).setCell ⟨w.heap.size + 1 + 1, 2, none⟩ (.slice none 0 0)).setCell ⟨w.heap.size + 1 + 1, 3, none⟩ (.slice none 0 0)).drew = z := ⟨_, rfl⟩
   have hx1 : Blk X1 (w.heap.size + 1 + 1) 37 #[.slice none 0 0, .int .i64 0, .slice none 0 0, .slice none 0 0] := by rw [← hX1]; exact (((((HB7.out.1).rx).put 0 (.slice none 0 0)).put 1 (.int .i64 0)).put 2 (.slice none 0 0)).put 3 (.slice none 0 0)
   have hx2 : Blk X1 (w.heap.size + 1 + 1 + 1) 31 #[.int .i64 0, .int .i64 0, .int .i64 0, .int .i64 0, .bool false, .int .i64 0, .int .i64 0, .int .i64 0, .int .u64 0, .int .u64 0, .int .u64 0, .int .u64 0] := by
    rw [← hX1]
    show Blk (((((_ : World).setCell _ _).setCell _ _).setCell _ _).setCell _ _) _ _ _
    refine Blk.far (Blk.far (Blk.far (Blk.far (HB7.out.1).rp ?_ _) ?_ _) ?_ _) ?_ _
    all_goals (intro hh; dsimp only at hh; omega)
   have hx3 : ∀ g, g ≠ w.heap.size + 1 + 1 → X1.heap[g]? = (w7).heap[g]? := fun g hg => by
    rw [← hX1]
    show (((((_ : World).setCell _ _).setCell _ _).setCell _ _).setCell _ _).heap[g]? = _
    rw [Below.heap_setCell _ _ _ g hg, Below.heap_setCell _ _ _ g hg, Below.heap_setCell _ _ _ g hg, Below.heap_setCell _ _ _ g hg]
   have hx4 : Only (fun g => g = w.heap.size + 1 + 1 ∨ g = w.heap.size + 1 + 1 + 1) (w7) X1 := by
    rw [← hX1]
    have hT : ∀ o, (fun g => g = w.heap.size + 1 + 1 ∨ g = w.heap.size + 1 + 1 + 1) (⟨w.heap.size + 1 + 1, o, none⟩ : Addr).block ∨ (w7).heap.size ≤ (⟨w.heap.size + 1 + 1, o, none⟩ : Addr).block := fun o => .inl (.inl rfl)
    exact (((((Only.refl (fun g => g = w.heap.size + 1 + 1 ∨ g = w.heap.size + 1 + 1 + 1) (w7)).set (hT 0) _).set (hT 1) _).set (hT 2) _).set (hT 3) _).drew
   have hS1 : S0 X1 := by rw [HS0.out]; exact fun g h1 _ => hx3 g h1
   have z0 : (w7).cell? ⟨w.heap.size + 1 + 1, 0, none⟩ = some (.slice none 0 0) := (HB7.out.1).rx.at_ rfl
   have y0 : (w7).frozen? ⟨w.heap.size + 1 + 1, 0, none⟩ = false := (HB7.out.1).rx.fr 0
   have z1 : (w7).cell? ⟨w.heap.size + 1 + 1, 1, none⟩ = some (.int .i64 0) := (HB7.out.1).rx.at_ rfl
   have y1 : (w7).frozen? ⟨w.heap.size + 1 + 1, 1, none⟩ = false := (HB7.out.1).rx.fr 1
   have z2 : (w7).cell? ⟨w.heap.size + 1 + 1, 2, none⟩ = some (.slice none 0 0) := (HB7.out.1).rx.at_ rfl
   have y2 : (w7).frozen? ⟨w.heap.size + 1 + 1, 2, none⟩ = false := (HB7.out.1).rx.fr 2
   have z3 : (w7).cell? ⟨w.heap.size + 1 + 1, 3, none⟩ = some (.slice none 0 0) := (HB7.out.1).rx.at_ rfl
   have y3 : (w7).frozen? ⟨w.heap.size + 1 + 1, 3, none⟩ = false := (HB7.out.1).rx.fr 3
   have HX1 := Lib.hid (And.intro hx1 (And.intro hx2 (And.intro hx3 hx4)))
   have HWX1 := Lib.hid hX1
   clear hx1 hx2 hx3 hx4 hX1
   go_wp2_with fail
   rw [HWX1.out]
   refine ⟨rfl, hS1, ?_⟩
   show G.wpLexE _ _ _ _ _ _ _ _ _
   refine G.wpLexE_effg (by kernel_rfl) rfl ?_
   clear z0 z1 z2 z3 y0 y1 y2 y3
   obtain ⟨X2, hX2⟩ : ∃ z, ((((((((((((X1.setCell ⟨w.heap.size + 1 + 1 + 1, 0, none⟩ (.int .i64 qd.ag)).setCell ⟨w.heap.size + 1 + 1 + 1, 1, none⟩ (.int .i64 qd.aa)).setCell ⟨w.heap.size + 1 + 1 + 1, 2, none⟩ (.int .i64 qd.bg)).setCell ⟨w.heap.size + 1 + 1 + 1, 3, none⟩ (.int .i64 qd.ba)).setCell ⟨w.heap.size + 1 + 1 + 1, 4, none⟩ (.bool qd.two)).setCell ⟨w.heap.size + 1 + 1 + 1, 5, none⟩ (.int .i64 qd.size)).setCell ⟨w.heap.size + 1 + 1 + 1, 6, none⟩ (.int .i64 qd.level)).setCell ⟨w.heap.size + 1 + 1 + 1, 7, none⟩ (.int .i64 qd.birth)).setCell ⟨w.heap.size + 1 + 1 + 1, 8, none⟩ (.int .u64 qd.s0)).setCell ⟨w.heap.size + 1 + 1 + 1, 9, none⟩ (.int .u64 qd.s1)).setCell ⟨w.heap.size + 1 + 1 + 1, 10, none⟩ (.int .u64 qd.s2)).setCell ⟨w.heap.size + 1 + 1 + 1, 11, none⟩ (.int .u64 qd.s3)) = z := ⟨_, rfl⟩
   have hX2' : X1.setCells (w.heap.size + 1 + 1 + 1) 0 [.int .i64 qd.ag, .int .i64 qd.aa, .int .i64 qd.bg, .int .i64 qd.ba, .bool qd.two, .int .i64 qd.size, .int .i64 qd.level, .int .i64 qd.birth, .int .u64 qd.s0, .int .u64 qd.s1, .int .u64 qd.s2, .int .u64 qd.s3] = X2 := hX2
   have hq1 : Blk X2 (w.heap.size + 1 + 1 + 1) 31 #[.int .i64 qd.ag, .int .i64 qd.aa, .int .i64 qd.bg, .int .i64 qd.ba, .bool qd.two, .int .i64 qd.size, .int .i64 qd.level, .int .i64 qd.birth, .int .u64 qd.s0, .int .u64 qd.s1, .int .u64 qd.s2, .int .u64 qd.s3] := by rw [← hX2']; exact HX1.out.2.1.putAll #[.int .i64 qd.ag, .int .i64 qd.aa, .int .i64 qd.bg, .int .i64 qd.ba, .bool qd.two, .int .i64 qd.size, .int .i64 qd.level, .int .i64 qd.birth, .int .u64 qd.s0, .int .u64 qd.s1, .int .u64 qd.s2, .int .u64 qd.s3] rfl
   have hq2 : ∀ g, g ≠ w.heap.size + 1 + 1 + 1 → X2.heap[g]? = X1.heap[g]? := fun g hg => by rw [← hX2']; exact sets_far' (w := X1) hg _ _ _
   have hq6 : Below 0 X1 X2 := by rw [← hX2']; exact below_sets _ _ (Below.refl _ _) (Nat.zero_le _)
   have hq5 : Only (fun g => g = w.heap.size + 1 + 1 ∨ g = w.heap.size + 1 + 1 + 1) X1 X2 := ⟨hq6.os, hq6.tape, hq6.output, hq6.size, fun i _ hn => hq2 i (fun e => hn (.inr e))⟩
   have hS2 : S0 X2 := by rw [HS0.out]; exact fun g h1 h2 => (hq2 g h2).trans (HX1.out.2.2.1 g h1)
   have hr1 : Blk X2 (w.heap.size + 1 + 1) 37 #[.slice none 0 0, .int .i64 0, .slice none 0 0, .slice none 0 0] := (hq2 _ (by omega)).trans HX1.out.1
   have z0 := HX1.out.2.1.at_ (i := 0) (v := .int .i64 0) rfl
   have y0 := HX1.out.2.1.fr 0
   have z1 := HX1.out.2.1.at_ (i := 1) (v := .int .i64 0) rfl
   have y1 := HX1.out.2.1.fr 1
   have z2 := HX1.out.2.1.at_ (i := 2) (v := .int .i64 0) rfl
   have y2 := HX1.out.2.1.fr 2
   have z3 := HX1.out.2.1.at_ (i := 3) (v := .int .i64 0) rfl
   have y3 := HX1.out.2.1.fr 3
   have z4 := HX1.out.2.1.at_ (i := 4) (v := .bool false) rfl
   have y4 := HX1.out.2.1.fr 4
   have z5 := HX1.out.2.1.at_ (i := 5) (v := .int .i64 0) rfl
   have y5 := HX1.out.2.1.fr 5
   have z6 := HX1.out.2.1.at_ (i := 6) (v := .int .i64 0) rfl
   have y6 := HX1.out.2.1.fr 6
   have z7 := HX1.out.2.1.at_ (i := 7) (v := .int .i64 0) rfl
   have y7 := HX1.out.2.1.fr 7
   have z8 := HX1.out.2.1.at_ (i := 8) (v := .int .u64 0) rfl
   have y8 := HX1.out.2.1.fr 8
   have z9 := HX1.out.2.1.at_ (i := 9) (v := .int .u64 0) rfl
   have y9 := HX1.out.2.1.fr 9
   have z10 := HX1.out.2.1.at_ (i := 10) (v := .int .u64 0) rfl
   have y10 := HX1.out.2.1.fr 10
   have z11 := HX1.out.2.1.at_ (i := 11) (v := .int .u64 0) rfl
   have y11 := HX1.out.2.1.fr 11
   have HR := Lib.hid (And.intro hr1 (And.intro hq1 (HX1.out.2.2.2.trans hq5 (fun g hg => .inl hg))))
   have HWX2 := Lib.hid hX2
   clear hr1 hq1 hq2 hq5 hq6 hX2 hX2' HWX1
   go_wp2_with fail
   rw [HWX2.out]
   refine ⟨rfl, hS2, ?_⟩
   show wpList _ _ _ _ _ _
   clear hS1 hS2
   clear z0 y0 z1 y1 z2 y2 z3 y3 z4 y4 z5 y5 z6 y6 z7 y7 z8 y8 z9 y9 z10 y10 z11 y11
   go_wp2_with fail
   have e0 := HR.out.1.at_ (i := 0) (v := .slice none 0 0) rfl
   have e1 := HR.out.1.at_ (i := 1) (v := .int .i64 0) rfl
   have e2 := HR.out.1.at_ (i := 2) (v := .slice none 0 0) rfl
   have e3 := HR.out.1.at_ (i := 3) (v := .slice none 0 0) rfl
   have e4 := HR.out.2.1.at_ (i := 0) (v := .int .i64 qd.ag) rfl
   have e5 := HR.out.2.1.at_ (i := 1) (v := .int .i64 qd.aa) rfl
   have e6 := HR.out.2.1.at_ (i := 2) (v := .int .i64 qd.bg) rfl
   have e7 := HR.out.2.1.at_ (i := 3) (v := .int .i64 qd.ba) rfl
   have e8 := HR.out.2.1.at_ (i := 4) (v := .bool qd.two) rfl
   have e9 := HR.out.2.1.at_ (i := 5) (v := .int .i64 qd.size) rfl
   have e10 := HR.out.2.1.at_ (i := 6) (v := .int .i64 qd.level) rfl
   have e11 := HR.out.2.1.at_ (i := 7) (v := .int .i64 qd.birth) rfl
   have e12 := HR.out.2.1.at_ (i := 8) (v := .int .u64 qd.s0) rfl
   have e13 := HR.out.2.1.at_ (i := 9) (v := .int .u64 qd.s1) rfl
   have e14 := HR.out.2.1.at_ (i := 10) (v := .int .u64 qd.s2) rfl
   have e15 := HR.out.2.1.at_ (i := 11) (v := .int .u64 qd.s3) rfl
   refine bodyPost_ret (v := .tuple #[.agg #[.slice none 0 0, .int .i64 0, .slice none 0 0, .slice none 0 0], .agg #[.int .i64 qd.ag, .int .i64 qd.aa, .int .i64 qd.bg, .int .i64 qd.ba, .bool qd.two, .int .i64 qd.size, .int .i64 qd.level, .int .i64 qd.birth, .int .u64 qd.s0, .int .u64 qd.s1, .int .u64 qd.s2, .int .u64 qd.s3], .slice none 0 0, .bool false]) (by simp [results, Tryz.f9, go_sem, e0, e1, e2, e3, e4, e5, e6, e7, e8, e9, e10, e11, e12, e13, e14, e15]) rfl ?_
   unfold LdPost
   rw [if_neg HNO.out]
   have hbb : Below w.heap.size w w7 := HD3.out.trans (HB7.out.2.2.below (by have := HS3.out; omega) (fun g hg => by omega))
   exact ⟨_, qd, rfl, .inl rfl, hbb.trans (HR.out.2.2.below hbb.size (fun g hg => by omega))⟩
  | true =>
   simp only [Bool.and_eq_true, decide_eq_true_eq] at hr
   obtain ⟨hrr, hs200⟩ := hr
   have hbd := gRight_parts hrr
   obtain ⟨sc, rfl⟩ := Int.eq_ofNat_of_zero_le (show 0 ≤ secs by omega)
   obtain ⟨n, hn⟩ := Int.eq_ofNat_of_zero_le (Int.le_of_lt (gSum_pos hrr))
   have HDV := devices_any2 (c := c) HG2.out hrr (by omega) hn (av := .slice none 0 0) (lv := .slice none 0 0) (al := []) (ll := []) ⟨_, _, rfl, Nat.le_refl _, fun h => absurd h (Nat.lt_irrefl _)⟩ ⟨_, _, rfl, Nat.le_refl _, fun h => absurd h (Nat.lt_irrefl _)⟩
   rw [awT_none (al := al), lsT_none] at HDV
   have HDV := Lib.hid HDV
   have HP : Hid (gRight gs sc = true ∧ gSum gs = n ∧ 24 ≤ sc ∧ sc ≤ 200 ∧ n ≤ 32 ∧ 0 < n) := Lib.hid ⟨hrr, hn, by omega, by omega, by have := (gSum_bd (gs := gs) (fun x hx => by have := gOne_true (hbd.2.2.2.2 x hx); omega)).2; omega, by have := gSum_pos hrr; omega⟩
   clear hrr hs200 hbd hn
   go_wp2_with fail
   rw [HW2.out]
   refine HDV.out.mono ?_
   rintro e w3 ⟨y, S, U0, hv0, rfl, hys, hysec, hyn, hV, hub, _, hyl, hb3⟩
   subst hysec
   subst hyn
   subst hys
   clear g0 g1 hd1 hd2 HDV
   have HV3 := Lib.hid (And.intro hV (And.intro hub hyl))
   clear hV hub hyl
   have hB3 := HB2.out.below hb3
   have hs3 : w.heap.size + 3 < w3.heap.size := hB3.rp.lt
   obtain ⟨w4, hw4⟩ : ∃ z, w3.alloc (.cells y.cells 37) = z := ⟨_, rfl⟩
   have hX4 : Blk w4 w3.heap.size 37 y.cells := by rw [← hw4]; exact Blk.new _ _ _
   have hb34 : Below w3.heap.size w3 w4 := by rw [← hw4]; exact keep_alloc (Below.refl _ _) _
   have hB4 := hB3.below hb34
   have z5 := hB4.p.at_ (i := 5) (v := .int .i64 p.size) rfl
   have y5 := hB4.p.fr 5
   rw [← hw4] at z5 y5
   obtain ⟨w5, hw5⟩ : ∃ z, w4.setCell ⟨w.heap.size + 1, 5, none⟩ (.int .i64 (secN s)) = z := ⟨_, rfl⟩
   have hB5 : LdB w w5 A m c y.secs { p with size := secN s } := by
    rw [← hw5]
    exact ⟨hB4.g.far (by intro hh; dsimp only at hh; omega) _, hB4.p.put 5 (.int .i64 (secN s)), hB4.rx.far (by intro hh; dsimp only at hh; omega) _, hB4.rp.far (by intro hh; dsimp only at hh; omega) _⟩
   have hX5 : Blk w5 w3.heap.size 37 y.cells := by rw [← hw5]; exact hX4.far (by intro hh; dsimp only at hh; omega) _
   have ho5 : Only (fun g => g = w.heap.size + 1) w3 w5 := by
    rw [← hw5]
    have hT : (fun g => g = w.heap.size + 1) (⟨w.heap.size + 1, 5, none⟩ : Addr).block ∨ w3.heap.size ≤ (⟨w.heap.size + 1, 5, none⟩ : Addr).block := .inl rfl
    exact (Only.of_below (S := fun g => g = w.heap.size + 1) hb34).set hT _
   rw [← hw4] at hw5
   have HFS := Lib.hid (fsum_any s (by omega) w5)
   have hq : Int.tdiv (s.length : Int) 64 = (secN s : Int) := rfl
   have HS3 := Lib.hid hs3
   have HB5 := Lib.hid (And.intro hB5 (And.intro hX5 ho5))
   have HW5 := Lib.hid hw5
   have HB3 := Lib.hid hb3
   have hs15 : secN s ≤ 15 := by unfold secN; omega
   clear hB3 hs3 hw4 hX4 hb34 hB4 hB5 hX5 ho5 hw5 hb3
   go_wp2_with fail
   rw [HW5.out]
   refine HFS.out.mono ?_
   rintro e w6 ⟨rfl, hb6⟩
   clear z5 y5 hq
   have hB6 := HB5.out.1.below hb6
   have hX6 := HB5.out.2.1.below hb6 HB5.out.2.1.lt
   have z8 := hB6.p.at_ (i := 8) (v := .int .u64 p.s0) rfl
   have z9 := hB6.p.at_ (i := 9) (v := .int .u64 p.s1) rfl
   have z10 := hB6.p.at_ (i := 10) (v := .int .u64 p.s2) rfl
   have z11 := hB6.p.at_ (i := 11) (v := .int .u64 p.s3) rfl
   have y8 := hB6.p.fr 8
   have y9 := hB6.p.fr 9
   have y10 := hB6.p.fr 10
   have y11 := hB6.p.fr 11
   obtain ⟨w7, hw7⟩ : ∃ z, (((w6.setCell ⟨w.heap.size + 1, 8, none⟩ (.int .u64 (fsum s).1)).setCell ⟨w.heap.size + 1, 9, none⟩ (.int .u64 (fsum s).2.1)).setCell ⟨w.heap.size + 1, 10, none⟩ (.int .u64 (fsum s).2.2.1)).setCell ⟨w.heap.size + 1, 11, none⟩ (.int .u64 (fsum s).2.2.2) = z := ⟨_, rfl⟩
   obtain ⟨qd, hqd⟩ : ∃ qd, withSum p s = qd := ⟨_, rfl⟩
   have hfar : ∀ {g : Nat} {t : TypeId} {cs : Array Value}, Blk w6 g t cs → g ≠ w.heap.size + 1 → Blk w7 g t cs := fun {g t cs} h hg => by
    rw [← hw7]
    exact (((h.far hg _).far hg _).far hg _).far hg _
   have hB7 : LdB w w7 A m c y.secs qd := by
    refine ⟨hfar hB6.g (by omega), ?_, hfar hB6.rx (by omega), hfar hB6.rp (by omega)⟩
    rw [← hw7, ← hqd]
    exact (((hB6.p.put 8 (.int .u64 (fsum s).1)).put 9 (.int .u64 (fsum s).2.1)).put 10 (.int .u64 (fsum s).2.2.1)).put 11 (.int .u64 (fsum s).2.2.2)
   have hX7 : Blk w7 w3.heap.size 37 y.cells := hfar hX6 (by have := HS3.out; omega)
   have ho7 : Only (fun g => g = w.heap.size + 1) w3 w7 := by
    rw [← hw7]
    have hT : ∀ o, (fun g => g = w.heap.size + 1) (⟨w.heap.size + 1, o, none⟩ : Addr).block ∨ w3.heap.size ≤ (⟨w.heap.size + 1, o, none⟩ : Addr).block := fun o => .inl rfl
    exact ((((HB5.out.2.2.then_below hb6).set (hT 8) _).set (hT 9) _).set (hT 10) _).set (hT 11) _
   have HB7 := Lib.hid (And.intro hB7 (And.intro hX7 ho7))
   have HW7 := Lib.hid hw7
   have HQD := Lib.hid hqd
   have HD3 := Lib.hid (keep_below HB3.out HD2.out)
   clear hb6 hB6 hX6 hw7 hqd hfar hB7 hX7 ho7
   have p0 := (HB7.out.1).p.at_ (i := 0) (v := .int .i64 qd.ag) rfl
   have p1 := (HB7.out.1).p.at_ (i := 1) (v := .int .i64 qd.aa) rfl
   have p2 := (HB7.out.1).p.at_ (i := 2) (v := .int .i64 qd.bg) rfl
   have p3 := (HB7.out.1).p.at_ (i := 3) (v := .int .i64 qd.ba) rfl
   have p4 := (HB7.out.1).p.at_ (i := 4) (v := .bool qd.two) rfl
   have p5 := (HB7.out.1).p.at_ (i := 5) (v := .int .i64 qd.size) rfl
   have p6 := (HB7.out.1).p.at_ (i := 6) (v := .int .i64 qd.level) rfl
   have p7 := (HB7.out.1).p.at_ (i := 7) (v := .int .i64 qd.birth) rfl
   have p8 := (HB7.out.1).p.at_ (i := 8) (v := .int .u64 qd.s0) rfl
   have p9 := (HB7.out.1).p.at_ (i := 9) (v := .int .u64 qd.s1) rfl
   have p10 := (HB7.out.1).p.at_ (i := 10) (v := .int .u64 qd.s2) rfl
   have p11 := (HB7.out.1).p.at_ (i := 11) (v := .int .u64 qd.s3) rfl
   have g0 := HB7.out.1.g.at_ (i := 0) (v := .slice A m c) rfl
   have g1 := HB7.out.1.g.at_ (i := 1) (v := .int .i64 y.secs) rfl
   have HGE7 : Hid (GeoAt w7 A m y.gs) := Lib.hid (HG.out.below (HD3.out.trans (HB7.out.2.2.below (by have := HS3.out; omega) (fun g hg => by omega))) (Nat.le_refl _))
   have hpr := pright_any A m c y.gs y.secs qd w7 HGE7.out
   obtain ⟨rb, hrb⟩ : ∃ rb, rightB y.gs y.secs qd = rb := ⟨_, rfl⟩
   rw [hrb] at hpr
   dsimp only [PtrD.cells] at hpr
   have HPR := Lib.hid hpr
   have HRB := Lib.hid hrb
   clear hpr hrb
   rw [← HW7.out] at p0 p1 p2 p3 p4 p5 p6 p7 p8 p9 p10 p11 g0 g1
   go_wp2_with fail
   rw [HW7.out]
   refine HPR.out.mono ?_
   rintro e w8 ⟨rfl, hb8⟩
   have hB8 := HB7.out.1.below hb8
   have hX8 := HB7.out.2.1.below hb8 HB7.out.2.1.lt
   have ho8 : Only (fun g => g = w.heap.size + 1) w3 w8 := HB7.out.2.2.then_below hb8
   have hV8 : VdIn w8 S U0 y (awT al y.bd.length 0) (List.replicate y.bd.length (DevD.blank y.secs 0)) := HV3.out.1.only ho8 (fun g hg => ⟨HV3.out.2.1 g (by have := HB2.out.p.lt; omega), by have := HV3.out.2.2; have := HB2.out.p.lt; omega, by have := HV3.out.2.2; have := HB2.out.p.lt; omega, by have := HV3.out.2.2; have := HB2.out.p.lt; omega⟩)
   have HB8 := Lib.hid (And.intro hB8 (And.intro hX8 (And.intro ho8 hV8)))
   clear hb8 hB8 hX8 ho8 hV8 p0 p1 p2 p3 p4 p5 p6 p7 p8 p9 p10 p11 g0 g1 z8 z9 z10 z11 y8 y9 y10 y11
   cases rb with
   | false =>
    have HNO : Hid (¬ (s.length ≤ 1000 ∧ s.length % 64 = 0 ∧ gRight y.gs y.secs = true ∧ (y.secs : Int) ≤ 200 ∧ rightB y.gs y.secs (withSum p s) = true)) := Lib.hid fun h => by
     have := h.2.2.2.2
     rw [HQD.out, HRB.out] at this
     cases this
    go_wp2_with fail
    obtain ⟨S0, hS0⟩ : ∃ S0 : World → Prop, S0 = fun X => ∀ g : Nat, g ≠ w.heap.size + 1 + 1 → g ≠ w.heap.size + 1 + 1 + 1 → X.heap[g]? = (w8).heap[g]? := ⟨_, rfl⟩
    have hSw : S0 (w8).drew := by rw [hS0]; exact fun _ _ _ => rfl
    have f4 : ∀ X, S0 X → X.cell? ⟨w.heap.size + 1, 0, none⟩ = some (.int .i64 qd.ag) := fun X h => by rw [hS0] at h; exact (cell_same' (h _ (by omega) (by omega))).trans ((HB8.out.1).p.at_ rfl)
    have f5 : ∀ X, S0 X → X.cell? ⟨w.heap.size + 1, 1, none⟩ = some (.int .i64 qd.aa) := fun X h => by rw [hS0] at h; exact (cell_same' (h _ (by omega) (by omega))).trans ((HB8.out.1).p.at_ rfl)
    have f6 : ∀ X, S0 X → X.cell? ⟨w.heap.size + 1, 2, none⟩ = some (.int .i64 qd.bg) := fun X h => by rw [hS0] at h; exact (cell_same' (h _ (by omega) (by omega))).trans ((HB8.out.1).p.at_ rfl)
    have f7 : ∀ X, S0 X → X.cell? ⟨w.heap.size + 1, 3, none⟩ = some (.int .i64 qd.ba) := fun X h => by rw [hS0] at h; exact (cell_same' (h _ (by omega) (by omega))).trans ((HB8.out.1).p.at_ rfl)
    have f8 : ∀ X, S0 X → X.cell? ⟨w.heap.size + 1, 4, none⟩ = some (.bool qd.two) := fun X h => by rw [hS0] at h; exact (cell_same' (h _ (by omega) (by omega))).trans ((HB8.out.1).p.at_ rfl)
    have f9 : ∀ X, S0 X → X.cell? ⟨w.heap.size + 1, 5, none⟩ = some (.int .i64 qd.size) := fun X h => by rw [hS0] at h; exact (cell_same' (h _ (by omega) (by omega))).trans ((HB8.out.1).p.at_ rfl)
    have f10 : ∀ X, S0 X → X.cell? ⟨w.heap.size + 1, 6, none⟩ = some (.int .i64 qd.level) := fun X h => by rw [hS0] at h; exact (cell_same' (h _ (by omega) (by omega))).trans ((HB8.out.1).p.at_ rfl)
    have f11 : ∀ X, S0 X → X.cell? ⟨w.heap.size + 1, 7, none⟩ = some (.int .i64 qd.birth) := fun X h => by rw [hS0] at h; exact (cell_same' (h _ (by omega) (by omega))).trans ((HB8.out.1).p.at_ rfl)
    have f12 : ∀ X, S0 X → X.cell? ⟨w.heap.size + 1, 8, none⟩ = some (.int .u64 qd.s0) := fun X h => by rw [hS0] at h; exact (cell_same' (h _ (by omega) (by omega))).trans ((HB8.out.1).p.at_ rfl)
    have f13 : ∀ X, S0 X → X.cell? ⟨w.heap.size + 1, 9, none⟩ = some (.int .u64 qd.s1) := fun X h => by rw [hS0] at h; exact (cell_same' (h _ (by omega) (by omega))).trans ((HB8.out.1).p.at_ rfl)
    have f14 : ∀ X, S0 X → X.cell? ⟨w.heap.size + 1, 10, none⟩ = some (.int .u64 qd.s2) := fun X h => by rw [hS0] at h; exact (cell_same' (h _ (by omega) (by omega))).trans ((HB8.out.1).p.at_ rfl)
    have f15 : ∀ X, S0 X → X.cell? ⟨w.heap.size + 1, 11, none⟩ = some (.int .u64 qd.s3) := fun X h => by rw [hS0] at h; exact (cell_same' (h _ (by omega) (by omega))).trans ((HB8.out.1).p.at_ rfl)
    have HS0 := Lib.hid hS0
    clear hS0
    have f0 : ∀ X, S0 X → X.cell? ⟨w3.heap.size, 0, none⟩ = some (.slice (some ⟨y.gb, 0, none⟩) y.m y.cc) := fun X h => by rw [HS0.out] at h; exact (cell_same' (h _ (by have := HS3.out; omega) (by have := HS3.out; omega))).trans ((HB8.out.2.1).at_ rfl)
    have f1 : ∀ X, S0 X → X.cell? ⟨w3.heap.size, 1, none⟩ = some (.int .i64 y.secs) := fun X h => by rw [HS0.out] at h; exact (cell_same' (h _ (by have := HS3.out; omega) (by have := HS3.out; omega))).trans ((HB8.out.2.1).at_ rfl)
    have f2 : ∀ X, S0 X → X.cell? ⟨w3.heap.size, 2, none⟩ = some (.slice (some ⟨y.lb, 0, none⟩) y.bd.length y.lc) := fun X h => by rw [HS0.out] at h; exact (cell_same' (h _ (by have := HS3.out; omega) (by have := HS3.out; omega))).trans ((HB8.out.2.1).at_ rfl)
    have f3 : ∀ X, S0 X → X.cell? ⟨w3.heap.size, 3, none⟩ = some (.slice (some ⟨y.ab, 0, none⟩) y.bd.length y.bd.length) := fun X h => by rw [HS0.out] at h; exact (cell_same' (h _ (by have := HS3.out; omega) (by have := HS3.out; omega))).trans ((HB8.out.2.1).at_ rfl)
    refine G.wp_region_eff S0 [2, 3] 4 (by kernel_rfl) (by kernel_rfl) (by kernel_rfl) hSw ?_
    simp only [List.take_succ_cons, List.take_zero, List.drop_succ_cons, List.drop_zero]
    refine G.wpLexE_take 2 (by kernel_rfl) (by kernel_rfl) ?_
    simp only [List.take_succ_cons, List.take_zero, List.drop_succ_cons, List.drop_zero]
    repeat (first | go_big_quiet_skip | (go_big_quiet_want; go_big_quiet_op; first | go_big_quiet_on | (apply Exists.intro; refine ⟨fun W hW => ?_, ?_⟩; (focus ((first | exact rfl | exact ⟨rfl, rfl⟩ | (simp only [f0 W hW, f1 W hW, f2 W hW, f3 W hW, f4 W hW, f5 W hW, f6 W hW, f7 W hW, f8 W hW, f9 W hW, f10 W hW, f11 W hW, f12 W hW, f13 W hW, f14 W hW, f15 W hW, Result.andThen_ok]; first | done | exact ⟨trivial, rfl⟩ | exact rfl | exact ⟨rfl, rfl⟩) | (skip)); done)); go_big_quiet_on)))
    refine wpQuiet_nil ?_
    clear f0 f1 f2 f3 f4 f5 f6 f7 f8 f9 f10 f11 f12 f13 f14 f15
    show G.wpLexE _ _ _ _ _ _ _ _ _
    refine G.wpLexE_effg (by kernel_rfl) rfl ?_
    obtain ⟨X1, hX1⟩ : ∃ z, (((((w8).setCell ⟨w.heap.size + 1 + 1, 0, none⟩ (.slice (some ⟨y.gb, 0, none⟩) y.m y.cc)).setCell ⟨w.heap.size + 1 + 1, 1, none⟩ (.int .i64 y.secs)).setCell ⟨w.heap.size + 1 + 1, 2, none⟩ (.slice (some ⟨y.lb, 0, none⟩) y.bd.length y.lc)).setCell ⟨w.heap.size + 1 + 1, 3, none⟩ (.slice (some ⟨y.ab, 0, none⟩) y.bd.length y.bd.length)).drew = z := ⟨_, rfl⟩
    have hx1 : Blk X1 (w.heap.size + 1 + 1) 37 #[.slice (some ⟨y.gb, 0, none⟩) y.m y.cc, .int .i64 y.secs, .slice (some ⟨y.lb, 0, none⟩) y.bd.length y.lc, .slice (some ⟨y.ab, 0, none⟩) y.bd.length y.bd.length] := by rw [← hX1]; exact (((((HB8.out.1).rx).put 0 (.slice (some ⟨y.gb, 0, none⟩) y.m y.cc)).put 1 (.int .i64 y.secs)).put 2 (.slice (some ⟨y.lb, 0, none⟩) y.bd.length y.lc)).put 3 (.slice (some ⟨y.ab, 0, none⟩) y.bd.length y.bd.length)
    have hx2 : Blk X1 (w.heap.size + 1 + 1 + 1) 31 #[.int .i64 0, .int .i64 0, .int .i64 0, .int .i64 0, .bool false, .int .i64 0, .int .i64 0, .int .i64 0, .int .u64 0, .int .u64 0, .int .u64 0, .int .u64 0] := by
     rw [← hX1]
     show Blk (((((_ : World).setCell _ _).setCell _ _).setCell _ _).setCell _ _) _ _ _
     refine Blk.far (Blk.far (Blk.far (Blk.far (HB8.out.1).rp ?_ _) ?_ _) ?_ _) ?_ _
     all_goals (intro hh; dsimp only at hh; omega)
    have hx3 : ∀ g, g ≠ w.heap.size + 1 + 1 → X1.heap[g]? = (w8).heap[g]? := fun g hg => by
     rw [← hX1]
     show (((((_ : World).setCell _ _).setCell _ _).setCell _ _).setCell _ _).heap[g]? = _
     rw [Below.heap_setCell _ _ _ g hg, Below.heap_setCell _ _ _ g hg, Below.heap_setCell _ _ _ g hg, Below.heap_setCell _ _ _ g hg]
    have hx4 : Only (fun g => g = w.heap.size + 1 + 1 ∨ g = w.heap.size + 1 + 1 + 1) (w8) X1 := by
     rw [← hX1]
     have hT : ∀ o, (fun g => g = w.heap.size + 1 + 1 ∨ g = w.heap.size + 1 + 1 + 1) (⟨w.heap.size + 1 + 1, o, none⟩ : Addr).block ∨ (w8).heap.size ≤ (⟨w.heap.size + 1 + 1, o, none⟩ : Addr).block := fun o => .inl (.inl rfl)
     exact (((((Only.refl (fun g => g = w.heap.size + 1 + 1 ∨ g = w.heap.size + 1 + 1 + 1) (w8)).set (hT 0) _).set (hT 1) _).set (hT 2) _).set (hT 3) _).drew
    have hS1 : S0 X1 := by rw [HS0.out]; exact fun g h1 _ => hx3 g h1
    have z0 : (w8).cell? ⟨w.heap.size + 1 + 1, 0, none⟩ = some (.slice none 0 0) := (HB8.out.1).rx.at_ rfl
    have y0 : (w8).frozen? ⟨w.heap.size + 1 + 1, 0, none⟩ = false := (HB8.out.1).rx.fr 0
    have z1 : (w8).cell? ⟨w.heap.size + 1 + 1, 1, none⟩ = some (.int .i64 0) := (HB8.out.1).rx.at_ rfl
    have y1 : (w8).frozen? ⟨w.heap.size + 1 + 1, 1, none⟩ = false := (HB8.out.1).rx.fr 1
    have z2 : (w8).cell? ⟨w.heap.size + 1 + 1, 2, none⟩ = some (.slice none 0 0) := (HB8.out.1).rx.at_ rfl
    have y2 : (w8).frozen? ⟨w.heap.size + 1 + 1, 2, none⟩ = false := (HB8.out.1).rx.fr 2
    have z3 : (w8).cell? ⟨w.heap.size + 1 + 1, 3, none⟩ = some (.slice none 0 0) := (HB8.out.1).rx.at_ rfl
    have y3 : (w8).frozen? ⟨w.heap.size + 1 + 1, 3, none⟩ = false := (HB8.out.1).rx.fr 3
    have HX1 := Lib.hid (And.intro hx1 (And.intro hx2 (And.intro hx3 hx4)))
    have HWX1 := Lib.hid hX1
    clear hx1 hx2 hx3 hx4 hX1
    go_wp2_with fail
    rw [HWX1.out]
    refine ⟨rfl, hS1, ?_⟩
    show G.wpLexE _ _ _ _ _ _ _ _ _
    refine G.wpLexE_effg (by kernel_rfl) rfl ?_
    clear z0 z1 z2 z3 y0 y1 y2 y3
    obtain ⟨X2, hX2⟩ : ∃ z, ((((((((((((X1.setCell ⟨w.heap.size + 1 + 1 + 1, 0, none⟩ (.int .i64 qd.ag)).setCell ⟨w.heap.size + 1 + 1 + 1, 1, none⟩ (.int .i64 qd.aa)).setCell ⟨w.heap.size + 1 + 1 + 1, 2, none⟩ (.int .i64 qd.bg)).setCell ⟨w.heap.size + 1 + 1 + 1, 3, none⟩ (.int .i64 qd.ba)).setCell ⟨w.heap.size + 1 + 1 + 1, 4, none⟩ (.bool qd.two)).setCell ⟨w.heap.size + 1 + 1 + 1, 5, none⟩ (.int .i64 qd.size)).setCell ⟨w.heap.size + 1 + 1 + 1, 6, none⟩ (.int .i64 qd.level)).setCell ⟨w.heap.size + 1 + 1 + 1, 7, none⟩ (.int .i64 qd.birth)).setCell ⟨w.heap.size + 1 + 1 + 1, 8, none⟩ (.int .u64 qd.s0)).setCell ⟨w.heap.size + 1 + 1 + 1, 9, none⟩ (.int .u64 qd.s1)).setCell ⟨w.heap.size + 1 + 1 + 1, 10, none⟩ (.int .u64 qd.s2)).setCell ⟨w.heap.size + 1 + 1 + 1, 11, none⟩ (.int .u64 qd.s3)) = z := ⟨_, rfl⟩
    have hX2' : X1.setCells (w.heap.size + 1 + 1 + 1) 0 [.int .i64 qd.ag, .int .i64 qd.aa, .int .i64 qd.bg, .int .i64 qd.ba, .bool qd.two, .int .i64 qd.size, .int .i64 qd.level, .int .i64 qd.birth, .int .u64 qd.s0, .int .u64 qd.s1, .int .u64 qd.s2, .int .u64 qd.s3] = X2 := hX2
    have hq1 : Blk X2 (w.heap.size + 1 + 1 + 1) 31 #[.int .i64 qd.ag, .int .i64 qd.aa, .int .i64 qd.bg, .int .i64 qd.ba, .bool qd.two, .int .i64 qd.size, .int .i64 qd.level, .int .i64 qd.birth, .int .u64 qd.s0, .int .u64 qd.s1, .int .u64 qd.s2, .int .u64 qd.s3] := by rw [← hX2']; exact HX1.out.2.1.putAll #[.int .i64 qd.ag, .int .i64 qd.aa, .int .i64 qd.bg, .int .i64 qd.ba, .bool qd.two, .int .i64 qd.size, .int .i64 qd.level, .int .i64 qd.birth, .int .u64 qd.s0, .int .u64 qd.s1, .int .u64 qd.s2, .int .u64 qd.s3] rfl
    have hq2 : ∀ g, g ≠ w.heap.size + 1 + 1 + 1 → X2.heap[g]? = X1.heap[g]? := fun g hg => by rw [← hX2']; exact sets_far' (w := X1) hg _ _ _
    have hq6 : Below 0 X1 X2 := by rw [← hX2']; exact below_sets _ _ (Below.refl _ _) (Nat.zero_le _)
    have hq5 : Only (fun g => g = w.heap.size + 1 + 1 ∨ g = w.heap.size + 1 + 1 + 1) X1 X2 := ⟨hq6.os, hq6.tape, hq6.output, hq6.size, fun i _ hn => hq2 i (fun e => hn (.inr e))⟩
    have hS2 : S0 X2 := by rw [HS0.out]; exact fun g h1 h2 => (hq2 g h2).trans (HX1.out.2.2.1 g h1)
    have hr1 : Blk X2 (w.heap.size + 1 + 1) 37 #[.slice (some ⟨y.gb, 0, none⟩) y.m y.cc, .int .i64 y.secs, .slice (some ⟨y.lb, 0, none⟩) y.bd.length y.lc, .slice (some ⟨y.ab, 0, none⟩) y.bd.length y.bd.length] := (hq2 _ (by omega)).trans HX1.out.1
    have z0 := HX1.out.2.1.at_ (i := 0) (v := .int .i64 0) rfl
    have y0 := HX1.out.2.1.fr 0
    have z1 := HX1.out.2.1.at_ (i := 1) (v := .int .i64 0) rfl
    have y1 := HX1.out.2.1.fr 1
    have z2 := HX1.out.2.1.at_ (i := 2) (v := .int .i64 0) rfl
    have y2 := HX1.out.2.1.fr 2
    have z3 := HX1.out.2.1.at_ (i := 3) (v := .int .i64 0) rfl
    have y3 := HX1.out.2.1.fr 3
    have z4 := HX1.out.2.1.at_ (i := 4) (v := .bool false) rfl
    have y4 := HX1.out.2.1.fr 4
    have z5 := HX1.out.2.1.at_ (i := 5) (v := .int .i64 0) rfl
    have y5 := HX1.out.2.1.fr 5
    have z6 := HX1.out.2.1.at_ (i := 6) (v := .int .i64 0) rfl
    have y6 := HX1.out.2.1.fr 6
    have z7 := HX1.out.2.1.at_ (i := 7) (v := .int .i64 0) rfl
    have y7 := HX1.out.2.1.fr 7
    have z8 := HX1.out.2.1.at_ (i := 8) (v := .int .u64 0) rfl
    have y8 := HX1.out.2.1.fr 8
    have z9 := HX1.out.2.1.at_ (i := 9) (v := .int .u64 0) rfl
    have y9 := HX1.out.2.1.fr 9
    have z10 := HX1.out.2.1.at_ (i := 10) (v := .int .u64 0) rfl
    have y10 := HX1.out.2.1.fr 10
    have z11 := HX1.out.2.1.at_ (i := 11) (v := .int .u64 0) rfl
    have y11 := HX1.out.2.1.fr 11
    have HR := Lib.hid (And.intro hr1 (And.intro hq1 (HX1.out.2.2.2.trans hq5 (fun g hg => .inl hg))))
    have HWX2 := Lib.hid hX2
    clear hr1 hq1 hq2 hq5 hq6 hX2 hX2' HWX1
    go_wp2_with fail
    rw [HWX2.out]
    refine ⟨rfl, hS2, ?_⟩
    show wpList _ _ _ _ _ _
    clear hS1 hS2
    clear z0 y0 z1 y1 z2 y2 z3 y3 z4 y4 z5 y5 z6 y6 z7 y7 z8 y8 z9 y9 z10 y10 z11 y11
    go_wp2_with fail
    have e0 := HR.out.1.at_ (i := 0) (v := .slice (some ⟨y.gb, 0, none⟩) y.m y.cc) rfl
    have e1 := HR.out.1.at_ (i := 1) (v := .int .i64 y.secs) rfl
    have e2 := HR.out.1.at_ (i := 2) (v := .slice (some ⟨y.lb, 0, none⟩) y.bd.length y.lc) rfl
    have e3 := HR.out.1.at_ (i := 3) (v := .slice (some ⟨y.ab, 0, none⟩) y.bd.length y.bd.length) rfl
    have e4 := HR.out.2.1.at_ (i := 0) (v := .int .i64 qd.ag) rfl
    have e5 := HR.out.2.1.at_ (i := 1) (v := .int .i64 qd.aa) rfl
    have e6 := HR.out.2.1.at_ (i := 2) (v := .int .i64 qd.bg) rfl
    have e7 := HR.out.2.1.at_ (i := 3) (v := .int .i64 qd.ba) rfl
    have e8 := HR.out.2.1.at_ (i := 4) (v := .bool qd.two) rfl
    have e9 := HR.out.2.1.at_ (i := 5) (v := .int .i64 qd.size) rfl
    have e10 := HR.out.2.1.at_ (i := 6) (v := .int .i64 qd.level) rfl
    have e11 := HR.out.2.1.at_ (i := 7) (v := .int .i64 qd.birth) rfl
    have e12 := HR.out.2.1.at_ (i := 8) (v := .int .u64 qd.s0) rfl
    have e13 := HR.out.2.1.at_ (i := 9) (v := .int .u64 qd.s1) rfl
    have e14 := HR.out.2.1.at_ (i := 10) (v := .int .u64 qd.s2) rfl
    have e15 := HR.out.2.1.at_ (i := 11) (v := .int .u64 qd.s3) rfl
    refine bodyPost_ret (v := .tuple #[.agg #[.slice (some ⟨y.gb, 0, none⟩) y.m y.cc, .int .i64 y.secs, .slice (some ⟨y.lb, 0, none⟩) y.bd.length y.lc, .slice (some ⟨y.ab, 0, none⟩) y.bd.length y.bd.length], .agg #[.int .i64 qd.ag, .int .i64 qd.aa, .int .i64 qd.bg, .int .i64 qd.ba, .bool qd.two, .int .i64 qd.size, .int .i64 qd.level, .int .i64 qd.birth, .int .u64 qd.s0, .int .u64 qd.s1, .int .u64 qd.s2, .int .u64 qd.s3], .slice none 0 0, .bool false]) (by simp [results, Tryz.f9, go_sem, e0, e1, e2, e3, e4, e5, e6, e7, e8, e9, e10, e11, e12, e13, e14, e15]) rfl ?_
    unfold LdPost
    rw [if_neg HNO.out]
    have hbb : Below w.heap.size w w8 := HD3.out.trans (HB8.out.2.2.1.below (by have := HS3.out; omega) (fun g hg => by omega))
    refine ⟨_, qd, rfl, .inr ⟨y, S, U0, _, _, rfl, HB8.out.2.2.2.only HR.out.2.2 (fun g hg => ?_), blanks_ok (by have := HP.out; omega) (by have := HP.out; omega), by have := HP.out; omega, fun b hb => HV3.out.2.1 b (by have := HD2.out.size; omega)⟩, hbb.trans (HR.out.2.2.below hbb.size (fun g hg => by omega))⟩
    have h1 := HB2.out.rp.lt
    have h2 := HV3.out.2.2
    exact ⟨HV3.out.2.1 g (by omega), by omega, by omega, by omega⟩
   | true =>
    have hrt : rightB y.gs y.secs qd = true := HRB.out
    have hmay := pls_may hrt
    have hl2 := plsL_len qd
    have hsz : qd.size = (secN s : Int) := by rw [← HQD.out]; rfl
    obtain ⟨L, hL⟩ : ∃ L, plsL qd = L := ⟨_, rfl⟩
    have hso : secOk s = true := by
     have hb := cMay_bd (hmay (qd.ag, qd.aa) (by rw [plsL_right hrt]; split <;> simp))
     rw [hsz] at hb
     unfold secN at hb
     unfold secOk
     cases hx : s with
     | nil => rw [hx] at hb; simp at hb
     | cons a r =>
      rw [hx] at hbad hb
      simp at hbad hb ⊢
      omega
    have HPL := Lib.hid (places2_any qd w8)
    rw [hL] at HPL hmay hl2
    have HLL := Lib.hid (And.intro hmay (And.intro hsz (And.intro hso (And.intro hL hrt))))
    clear hrt hmay hsz hso hL
    have p0 := (HB8.out.1).p.at_ (i := 0) (v := .int .i64 qd.ag) rfl
    have p1 := (HB8.out.1).p.at_ (i := 1) (v := .int .i64 qd.aa) rfl
    have p2 := (HB8.out.1).p.at_ (i := 2) (v := .int .i64 qd.bg) rfl
    have p3 := (HB8.out.1).p.at_ (i := 3) (v := .int .i64 qd.ba) rfl
    have p4 := (HB8.out.1).p.at_ (i := 4) (v := .bool qd.two) rfl
    have p5 := (HB8.out.1).p.at_ (i := 5) (v := .int .i64 qd.size) rfl
    have p6 := (HB8.out.1).p.at_ (i := 6) (v := .int .i64 qd.level) rfl
    have p7 := (HB8.out.1).p.at_ (i := 7) (v := .int .i64 qd.birth) rfl
    have p8 := (HB8.out.1).p.at_ (i := 8) (v := .int .u64 qd.s0) rfl
    have p9 := (HB8.out.1).p.at_ (i := 9) (v := .int .u64 qd.s1) rfl
    have p10 := (HB8.out.1).p.at_ (i := 10) (v := .int .u64 qd.s2) rfl
    have p11 := (HB8.out.1).p.at_ (i := 11) (v := .int .u64 qd.s3) rfl
    go_wp2_with fail
    refine HPL.out.mono ?_
    rintro e w9 ⟨⟨pv, rfl, hsl, hnew⟩, hb9⟩
    obtain ⟨Ap, cp, rfl⟩ := hsl.form
    obtain ⟨U1, hU1⟩ : ∃ U1, U1 = more U0 w3 w9 := ⟨_, rfl⟩
    have hs39 : w3.heap.size < w9.heap.size := by have := HB8.out.2.1.lt; have := hb9.size; omega
    have hV9 : VdIn w9 S U1 y (awT al y.bd.length 0) (List.replicate y.bd.length (DevD.blank y.secs 0)) := by
     rw [hU1]
     exact (HB8.out.2.2.2.below hb9).wide (fun b hb => .inl hb) (fun b hb => hb.elim (fun h => by have := HV3.out.1.us b h; omega) (fun h => h.2)) (fun i b hS hb => hb.elim (fun h => HV3.out.1.fx i b hS h) (fun h => by have := HV3.out.1.lt i b hS; omega))
    have hu1 : U1 w3.heap.size ∧ ∀ b, b < w2.heap.size → U1 b := by rw [hU1]; exact ⟨.inr ⟨Nat.le_refl _, hs39⟩, fun b hb => .inl (HV3.out.2.1 b hb)⟩
    have hPX : SlU w9 U1 (.slice Ap L.length cp) L.length (grC L) := slU_new hsl hnew (fun b h1 h2 => by rw [hU1]; exact .inr ⟨Nat.le_trans HB8.out.2.2.1.size h1, h2⟩)
    have HV9 := Lib.hid hV9
    have HU1 := Lib.hid hu1
    have HPX := Lib.hid hPX
    have HX9 := Lib.hid (HB8.out.2.1.below hb9 HB8.out.2.1.lt)
    have HB9 := Lib.hid (And.intro (HB8.out.1.below hb9) (HB8.out.2.2.1.then_below hb9))
    clear hb9 hsl hnew hU1 hV9 hu1 hPX hs39 p0 p1 p2 p3 p4 p5 p6 p7 p8 p9 p10 p11
    obtain ⟨aw0, haw0⟩ : ∃ aw0, awT al y.bd.length 0 = aw0 := ⟨_, rfl⟩
    obtain ⟨ds0, hds0⟩ : ∃ ds0, List.replicate y.bd.length (DevD.blank y.secs 0) = ds0 := ⟨_, rfl⟩
    have hok0 : DsOk 0 y.secs ds0 := by rw [← hds0]; exact blanks_ok (by have := HP.out; omega) (by have := HP.out; omega)
    have hh0 : ∀ i, i < y.bd.length → hereD aw0 ds0 i = true := fun i hi => by
     rw [← haw0, ← hds0]
     unfold hereD
     rw [List.getD_eq_getElem?_getD, awT_at hi, List.getElem?_replicate, if_pos hi]
     simp [DevD.blank]
    rw [haw0, hds0] at HV9
    have HDS := Lib.hid (And.intro haw0 (And.intro hds0 (And.intro hok0 hh0)))
    clear haw0 hds0 hok0 hh0
    go_wp2_with fail
    go_loopw [18, 19, 20] (fun t _ _ wr => ∃ (k : Nat) (S' : Nat → Nat → Prop), k ≤ L.length ∧ t = .int .i64 k ∧ VdIn wr S' U1 y aw0 (wrAll y.gs y.secs aw0 s (L.take k) ds0) ∧ Stays U1 w9 wr) (fun t _ _ _ => L.length - (RowKit.intOf t).toNat)
    case atStart => exact ⟨0, S, Nat.zero_le _, rfl, HV9.out, stays_refl _⟩
    case round =>
     obtain ⟨k, S', hk, rfl, hV, hst⟩ := hrel
     have HEQ := Lib.hid (hst.eq HV9.out.us)
     have HST := Lib.hid hst
     have HV := Lib.hid hV
     clear hV hst
     by_cases hlt : k < L.length
     · obtain ⟨pl, hpl⟩ : ∃ pl, L[k]? = some pl := ⟨_, List.getElem?_eq_getElem hlt⟩
       have hmp := HLL.out.1 pl (List.mem_of_getElem? hpl)
       rw [HLL.out.2.1] at hmp
       have hts := take_snoc hpl
       obtain ⟨dsk, hdk⟩ : ∃ dsk, wrAll y.gs y.secs aw0 s (L.take k) ds0 = dsk := ⟨_, rfl⟩
       have hok := wrAll_ok (gs := y.gs) (secs := y.secs) (aw := aw0) (s := s) (L.take k) ds0 HDS.out.2.2.1
       have hhk : ∀ i, i < y.bd.length → hereD aw0 dsk i = true := fun i hi => by rw [← hdk, wrAll_hereD]; exact HDS.out.2.2.2 i hi
       rw [hdk] at hok HV
       have hWR := vwrite_any (HV.out.same (w' := wr.drew) (Nat.le_refl _) (fun _ _ => rfl) (fun _ _ _ => rfl)) hok (by rw [List.length_take]; omega) (by have := HP.out; omega) pl.1 pl.2 s (by omega)
       rw [wE_all HLL.out.2.2.1 hmp hhk, show wD y.gs y.secs pl.1 pl.2 s aw0 dsk = wrAll y.gs y.secs aw0 s (L.take (k + 1)) ds0 by rw [hts, wrAll_snoc, hdk]] at hWR
       obtain ⟨wn, hwn⟩ : ∃ wn, wN y.gs y.secs pl.1 pl.2 s (hereD aw0 dsk) y.bd.length = wn := ⟨_, rfl⟩
       rw [hwn] at hWR
       have HWR := Lib.hid hWR
       obtain ⟨hc0, hc1⟩ := grC_get hpl
       obtain ⟨bp, op, rfl, hbp, hcp⟩ := HPX.out.cells (by omega)
       have l0 : wr.cell? ⟨bp, op + k * 2, none⟩ = some (.int .i64 pl.1) := (cell_same' (HEQ.out bp hbp)).trans (hcp _ _ hc0)
       have l1 : wr.cell? ⟨bp, op + k * 2 + 1, none⟩ = some (.int .i64 pl.2) := (cell_same' (HEQ.out bp hbp)).trans (hcp _ _ hc1)
       have hxr : Blk wr w3.heap.size 37 y.cells := (HEQ.out _ HU1.out.1).trans HX9.out
       obtain ⟨S0, hS0⟩ : ∃ S0 : World → Prop, S0 = fun W => ∀ g, (g = w3.heap.size ∨ g = bp) → W.heap[g]? = wr.heap[g]? := ⟨_, rfl⟩
       have hS1 : ∀ W, Stays U1 wr W → S0 W := fun W hW => by
        rw [hS0]
        intro g hg
        have hU : U1 g := by
         rcases hg with rfl | rfl
         · exact HU1.out.1
         · exact hbp
        exact hW.heap hU (HV.out.us g hU)
       have f0 : ∀ W, S0 W → W.cell? ⟨w3.heap.size, 0, none⟩ = some (.slice (some ⟨y.gb, 0, none⟩) y.m y.cc) := fun W h => by rw [hS0] at h; exact (cell_same' (h _ (.inl rfl))).trans (hxr.at_ rfl)
       have f1 : ∀ W, S0 W → W.cell? ⟨w3.heap.size, 1, none⟩ = some (.int .i64 y.secs) := fun W h => by rw [hS0] at h; exact (cell_same' (h _ (.inl rfl))).trans (hxr.at_ rfl)
       have f2 : ∀ W, S0 W → W.cell? ⟨w3.heap.size, 2, none⟩ = some (.slice (some ⟨y.lb, 0, none⟩) y.bd.length y.lc) := fun W h => by rw [hS0] at h; exact (cell_same' (h _ (.inl rfl))).trans (hxr.at_ rfl)
       have f3 : ∀ W, S0 W → W.cell? ⟨w3.heap.size, 3, none⟩ = some (.slice (some ⟨y.ab, 0, none⟩) y.bd.length y.bd.length) := fun W h => by rw [hS0] at h; exact (cell_same' (h _ (.inl rfl))).trans (hxr.at_ rfl)
       have f4 : ∀ W, S0 W → W.cell? ⟨bp, op + k * 2, none⟩ = some (.int .i64 pl.1) := fun W h => by rw [hS0] at h; exact (cell_same' (h _ (.inr rfl))).trans l0
       have f5 : ∀ W, S0 W → W.cell? ⟨bp, op + k * 2 + 1, none⟩ = some (.int .i64 pl.2) := fun W h => by rw [hS0] at h; exact (cell_same' (h _ (.inr rfl))).trans l1
       have hSw : S0 wr.drew := hS1 _ (Only.drew (stays_refl _))
       have HS1 := Lib.hid hS1
       have hdc : decide (k < L.length) = true := decide_eq_true hlt
       have HLT := Lib.hid hlt
       clear hpl hmp hts hdk hok hhk hWR hwn hc0 hc1 hbp hcp l0 l1 hxr hS0 hS1
       go_wp2_with fail
       refine wp_region_effA S0 [6] (by kernel_rfl) (by kernel_rfl) (by kernel_rfl) hSw ?_
       refine wpLexE_take 6 (by kernel_rfl) (by kernel_rfl) ?_
       simp only [List.take_succ_cons, List.take_zero, List.drop_succ_cons, List.drop_zero]
       repeat (first | go_big_quiet_skip | (go_big_quiet_want; go_big_quiet_op; first | go_big_quiet_on | (apply Exists.intro; refine ⟨fun W hW => ?_, ?_⟩; (focus ((first | exact rfl | exact ⟨rfl, rfl⟩ | (simp only [f0 W hW, f1 W hW, f2 W hW, f3 W hW, f4 W hW, f5 W hW, Result.andThen_ok]; first | done | exact ⟨trivial, rfl⟩ | exact rfl | exact ⟨rfl, rfl⟩) | (skip)); done)); go_big_quiet_on)))
       refine wpQuiet_nil ?_
       show wpLexE _ _ _ _ _ _ _ _ _
       refine wpLexE_eff (by kernel_rfl) rfl ?_
       clear f1 f2 f3 f4 f5
       go_wp2_with fail
       refine HWR.out.mono ?_
       rintro e w5 ⟨rfl, ⟨S5, hV5⟩, hst5⟩
       have hst5' : Stays U1 wr w5 := ⟨hst5.os, hst5.tape, hst5.output, hst5.size, hst5.block⟩
       have hS5 : S0 w5 := HS1.out _ hst5'
       have HF := Lib.hid (And.intro hV5 (HST.out.trans hst5'))
       clear hV5 hst5 hst5' hSw HWR
       go_wp2_with fail
       refine ⟨rfl, hS5, ?_⟩
       refine wpLexE_take 5 (by kernel_rfl) (by kernel_rfl) ?_
       simp only [List.take_succ_cons, List.take_zero, List.drop_succ_cons, List.drop_zero]
       repeat (first | go_big_quiet_skip | (go_big_quiet_want; go_big_quiet_op; first | go_big_quiet_on | (apply Exists.intro; refine ⟨fun W hW => ?_, ?_⟩; (focus ((first | exact rfl | exact ⟨rfl, rfl⟩ | (simp only [f0 W hW, Result.andThen_ok]; first | done | exact ⟨trivial, rfl⟩ | exact rfl | exact ⟨rfl, rfl⟩) | (skip)); done)); go_big_quiet_on)))
       refine wpQuiet_nil ?_
       unfold wpLexE
       clear hS5 f0
       go_wp2_with fail
       go_roundw
       case rel => exact ⟨k + 1, S5, HLT.out, by go_num, HF.out.1, HF.out.2⟩
       case measure => have := HLT.out; simp [RowKit.intOf]; omega
     · obtain rfl : k = L.length := by omega
       have hdc : decide ((L.length : Int) < L.length) = false := decide_eq_false (by omega)
       rename World => wb
       obtain ⟨DD, hDD⟩ : ∃ DD, wrAll y.gs y.secs aw0 s L ds0 = DD := ⟨_, rfl⟩
       have hVB := HV.out
       rw [List.take_length, hDD] at hVB
       have hokD : DsOk 128 y.secs DD := by rw [← hDD]; exact (wrAll_ok L ds0 HDS.out.2.2.1).mono (by omega)
       have hlD : ∀ k, k < y.bd.length → ∃ d, DD[k]? = some d ∧ d.lost = false := fun k hk => by
        obtain ⟨d, hd⟩ : ∃ d, DD[k]? = some d := ⟨_, List.getElem?_eq_getElem (by rw [hVB.n2]; exact hk)⟩
        refine ⟨d, hd, ?_⟩
        have h1 := HDS.out.2.2.2 k hk
        rw [← wrAll_hereD (gs := y.gs) (secs := y.secs) (s := s) k L ds0, hDD] at h1
        unfold hereD at h1
        rw [hd] at h1
        simp only [Bool.and_eq_true, Bool.not_eq_true'] at h1
        exact h1.2
       rw [show aw0 = awT al y.bd.length 0 from HDS.out.1.symm, ← loT_zero (ll := ll) (D := DD)] at hVB
       have HVB := Lib.hid hVB
       have HOKD := Lib.hid (And.intro hokD (And.intro hlD hDD))
       have HGET : Hid (∀ wx, Only (fun g => g = y.ab ∨ ∃ i, S' i g) wb wx → ∀ g, U1 g → g ≠ y.ab → wx.heap[g]? = wb.heap[g]?) := Lib.hid (fun wx honly g hg hne => honly.block g (HV.out.us g hg) (fun hh => by
        rcases hh with hh | ⟨i, hh⟩
        · exact hne hh
        · exact HV.out.fx i g hh hg))
       have hlts : y.ab < w3.heap.size ∧ w2.heap.size ≤ y.ab := ⟨HV3.out.1.us _ HV3.out.1.ua, HV3.out.2.2.1⟩
       have HLTS := Lib.hid hlts
       have HXB := Lib.hid ((HEQ.out _ HU1.out.1).trans HX9.out)
       have HARGB : Hid (∀ g, g < w.heap.size → wb.heap[g]? = w.heap[g]?) := Lib.hid (fun g hg => by
        have l2 : g < w2.heap.size := by have := HD2.out.size; omega
        have l3 : g < w3.heap.size := by have := HB3.out.size; omega
        exact (HEQ.out g (HU1.out.2 g l2)).trans ((HB9.out.2.block g l3 (fun e => by omega)).trans ((HB3.out.block g l2).trans (HD2.out.block g hg))))
       obtain ⟨i0, hi, hz0, hz1, hz2⟩ := info_parts Tryz.infoBool
       have hdsl : DD.length = y.bd.length := by have := hVB.n2; rwa [loT_len] at this
       have hn32 : y.bd.length ≤ 32 := HP.out.2.2.2.2.1
       clear hVB hokD hlD hDD hlts hk hl2
       go_wp2_with fail
       go_loopw [21, 22] (fun v t wr => ∃ k : Nat, k ≤ y.bd.length ∧ t = .int .i64 k ∧ VdIn wr S' U1 y (awT al y.bd.length k) (loT ll DD k) ∧ wr.ownsRow wb.heap.size 4 1 v k (boolC (hrT al ll k)) ∧ Only (fun g => g = y.ab ∨ ∃ i, S' i g) wb wr) (fun _ t _ => y.bd.length - (RowKit.intOf t).toNat)
       case atStart => exact ⟨0, Nat.zero_le _, rfl, HVB.out, World.ownsRow_nil _ _ _ _, Only.refl _ _⟩
       case round =>
        obtain ⟨k, hk, rfl, hV, hown, honly⟩ := hrel
        have hU := HGET.out wr honly
        have hX : Blk wr w3.heap.size 37 y.cells := (hU _ HU1.out.1 (by have := HLTS.out.1; omega)).trans HXB.out
        have harr : ∀ g, g < w.heap.size → wr.heap[g]? = w.heap[g]? ∧ g ≠ y.ab := fun g hg => by
         have l2 : g < w2.heap.size := by have := HD2.out.size; omega
         have na : g ≠ y.ab := by have := HLTS.out.2; omega
         exact ⟨(hU g (HU1.out.2 g l2) na).trans (HARGB.out g hg), na⟩
        by_cases hlt : k < y.bd.length
        · have x2 := hX.at_ (i := 2) (v := .slice (some ⟨y.lb, 0, none⟩) y.bd.length y.lc) rfl
          have hdc : decide (k < y.bd.length) = true := decide_eq_true hlt
          have HVK := Lib.hid hV
          have HOWN := Lib.hid hown
          have HON := Lib.hid honly
          have HX := Lib.hid hX
          have HLT := Lib.hid hlt
          have HARR := Lib.hid harr
          have hkl := hlt
          obtain ⟨bv, hbv⟩ : ∃ bv, bAt al k = bv := ⟨_, rfl⟩
          have HBV := Lib.hid hbv
          clear hV hown honly hX hlt hbv hU harr
          go_wp2_with fail
          go_cut [22] (fun t wx => t = .int .i64 k ∧ wx = wr.drew.setCell ⟨y.ab, k, none⟩ (.bool bv))
          case first =>
           obtain ⟨S0, hS0⟩ : ∃ S0 : World → Prop, S0 = fun W => ∀ g : Nat, g ≠ y.ab → W.heap[g]? = wr.heap[g]? := ⟨_, rfl⟩
           have f3 : ∀ W, S0 W → W.cell? ⟨w3.heap.size, 3, none⟩ = some (.slice (some ⟨y.ab, 0, none⟩) y.bd.length y.bd.length) := fun W h => by rw [hS0] at h; exact (cell_same' (h _ (by have := HLTS.out.1; omega))).trans (HX.out.at_ rfl)
           have hSw : S0 wr.drew := by rw [hS0]; exact fun _ _ => rfl
           have hSf : S0 (wr.drew.setCell ⟨y.ab, k, none⟩ (.bool bv)) := by rw [hS0]; exact fun g hg => Below.heap_setCell wr.drew _ _ g hg
           have c8 : wr.drew.cell? ⟨y.ab, k, none⟩ = some (.bool (decide (k < k) && bAt al k)) := HVK.out.box.at_ (by rw [List.getElem?_toArray, List.getElem?_map, awT_at HLT.out]; rfl)
           have z8 : wr.drew.frozen? ⟨y.ab, k, none⟩ = false := HVK.out.box.fr k
           by_cases hka : k < al.length
           · obtain ⟨ba, oa, rfl, hba, hca⟩ := HARG.out.1.cells (by omega)
             have fa : ∀ W, S0 W → W.cell? ⟨ba, oa + k, none⟩ = some (.bool (bAt al k)) := fun W h => by rw [hS0] at h; exact (cell_same' ((h _ (HARR.out ba hba).2).trans (HARR.out ba hba).1)).trans (hca k _ (boolC_at (bAt_in hka)))
             have hda : decide (k < al.length) = true := decide_eq_true hka
             rw [HBV.out] at fa
             clear hS0 hca
             refine wp_region_effA S0 [14] (by kernel_rfl) (by kernel_rfl) (by kernel_rfl) hSw ?_
             refine wpLexE_take 14 (by kernel_rfl) (by kernel_rfl) ?_
             simp only [List.take_succ_cons, List.take_zero, List.drop_succ_cons, List.drop_zero]
             repeat (first | go_big_quiet_skip | (go_big_quiet_want; go_big_quiet_op; first | go_big_quiet_on | (apply Exists.intro; refine ⟨fun W hW => ?_, ?_⟩; (focus ((first | exact rfl | exact ⟨rfl, rfl⟩ | (simp only [f3 W hW, fa W hW, Result.andThen_ok]; first | done | exact ⟨trivial, rfl⟩ | exact rfl | exact ⟨rfl, rfl⟩) | (skip)); done)); go_big_quiet_on)))
             refine wpQuiet_nil ?_
             show wpLexE _ _ _ _ _ _ _ _ _
             refine wpLexE_eff (by kernel_rfl) rfl ?_
             clear f3 fa
             go_wp2_with fail
             refine ⟨rfl, hSf, ?_⟩
             unfold wpLexE
             go_wp2_with fail
             go_meet
             exact ⟨rfl, rfl⟩
           · have hda : decide (k < al.length) = false := decide_eq_false hka
             have hbf : bv = false := HBV.out.symm.trans (bAt_out hka)
             subst hbf
             clear hS0 hka
             refine wp_region_effA S0 [14] (by kernel_rfl) (by kernel_rfl) (by kernel_rfl) hSw ?_
             refine wpLexE_take 14 (by kernel_rfl) (by kernel_rfl) ?_
             simp only [List.take_succ_cons, List.take_zero, List.drop_succ_cons, List.drop_zero]
             repeat (first | go_big_quiet_skip | (go_big_quiet_want; go_big_quiet_op; first | go_big_quiet_on | (apply Exists.intro; refine ⟨fun W hW => ?_, ?_⟩; (focus ((first | exact rfl | exact ⟨rfl, rfl⟩ | (simp only [f3 W hW, Result.andThen_ok]; first | done | exact ⟨trivial, rfl⟩ | exact rfl | exact ⟨rfl, rfl⟩) | (skip)); done)); go_big_quiet_on)))
             refine wpQuiet_nil ?_
             show wpLexE _ _ _ _ _ _ _ _ _
             refine wpLexE_eff (by kernel_rfl) rfl ?_
             clear f3
             go_wp2_with fail
             refine ⟨rfl, hSf, ?_⟩
             unfold wpLexE
             go_wp2_with fail
             go_meet
             exact ⟨rfl, rfl⟩
          case rest =>
           obtain ⟨rfl, hwc⟩ := hcut
           have hVc : VdIn wc S' U1 y (awT al y.bd.length (k + 1)) (loT ll DD k) := by
            have := (HVK.out.same (w' := wr.drew) (Nat.le_refl _) (fun _ _ => rfl) (fun _ _ _ => rfl)).away k bv
            rw [hwc, awT_step HLT.out, HBV.out]
            exact this
           have hoc : Only (fun g => g = y.ab ∨ ∃ i, S' i g) wb wc := by rw [hwc]; exact Only.set (S := fun g => g = y.ab ∨ ∃ i, S' i g) HON.out.drew (.inl (.inl rfl)) _
           have howc : wc.ownsRow wb.heap.size 4 1 u21 k (boolC (hrT al ll k)) := by
            rw [hwc]
            exact ownsRow_same (w := wr) HOWN.out (fun b hb => Below.heap_setCell wr.drew _ _ b (fun e => by have e' : b = y.ab := e; have := (HOWN.out.lt b hb).1; have := HVB.out.us _ HVB.out.ua; omega))
           obtain ⟨dd, hdd, hddl⟩ := HOKD.out.2.1 k HLT.out
           have hdk : (loT ll DD k)[k]? = some dd := by rw [loT_at hdd]; simp
           have hdsz : dd.med.length = y.secs := hVc.sz dd (List.mem_of_getElem? hdk)
           obtain ⟨_, bk, _, hbk, _, hdev, hrow, _⟩ := hVc.parts hdk
           have x2 : wc.cell? ⟨w3.heap.size, 2, none⟩ = some (.slice (some ⟨y.lb, 0, none⟩) y.bd.length y.lc) := (show Blk wc _ _ _ from (HGET.out wc hoc _ HU1.out.1 (by have := HLTS.out.1; omega)).trans HXB.out).at_ (i := 2) (cs := y.cells) rfl
           have x1' : wc.cell? ⟨w3.heap.size, 2, none⟩ = some (.slice (some ⟨y.lb, 0, none⟩) y.bd.length y.lc) := x2
           have HLO := Lib.hid (lose_any hdev)
           have HVC := Lib.hid hVc
           have HOC := Lib.hid hoc
           have HOWC := Lib.hid howc
           have HBK := Lib.hid hbk
           have HDD := Lib.hid (And.intro hdd (And.intro hddl hdsz))
           have HARC : Hid (∀ g, g < w.heap.size → wc.heap[g]? = w.heap[g]?) := Lib.hid (fun g hg => by
            have l2 : g < w2.heap.size := by have := HD2.out.size; omega
            have na : g ≠ y.ab := by have := HLTS.out.2; omega
            exact (HGET.out wc hoc g (HU1.out.2 g l2) na).trans (HARGB.out g hg))
           clear hVc hoc howc hdk hbk hdev hwc HVK HON HOWN HARR hdd hddl hdsz x1'
           obtain ⟨lv, hlv⟩ : ∃ lv, bAt ll k = lv := ⟨_, rfl⟩
           have HLV := Lib.hid hlv
           clear hlv
           go_upto_region 20 with (fail)
           go_cut [22, 109] (fun t t61 wx => t = .int .i64 k ∧ t61 = .bool lv ∧ wx = wc)
           case first =>
            by_cases hkl : k < ll.length
            · obtain ⟨bl, ol, rfl, hbl, hcl⟩ := HARG.out.2.cells (by omega)
              have fl : wc.cell? ⟨bl, ol + k, none⟩ = some (.bool (bAt ll k)) := (cell_same' (HARC.out bl hbl)).trans (hcl k _ (boolC_at (bAt_in hkl)))
              have hdl : decide (k < ll.length) = true := decide_eq_true hkl
              rw [HLV.out] at fl
              clear hcl hbl
              go_wp2_with fail
              go_meet
              exact ⟨rfl, rfl, rfl⟩
            · have hdl : decide (k < ll.length) = false := decide_eq_false hkl
              have hbf : lv = false := HLV.out.symm.trans (bAt_out hkl)
              subst hbf
              go_wp2_with fail
              go_meet
              exact ⟨rfl, rfl, rfl⟩
           case rest =>
            obtain ⟨rfl, rfl, rfl⟩ := hcut
            go_upto_if 109 with (fail)
            go_cut [22] (fun t wx => t = .int .i64 k ∧ VdIn wx S' U1 y (awT al y.bd.length (k + 1)) (loT ll DD (k + 1)) ∧ wx.ownsRow wb.heap.size 4 1 u21 k (boolC (hrT al ll k)) ∧ Only (fun g => g = y.ab ∨ ∃ i, S' i g) wb wx)
            case first =>
             cases lv with
             | false =>
              have HT : Hid (loT ll DD (k + 1) = loT ll DD k) := Lib.hid (loT_no HLV.out)
              go_wp2_with fail
              go_meet
              exact ⟨rfl, by rw [HT.out]; exact HVC.out, HOWC.out, HOC.out⟩
             | true =>
              have HT : Hid (loT ll DD (k + 1) = (loT ll DD k).set k dd.lose) := Lib.hid (loT_yes HDD.out.1 HLV.out)
              go_wp2_with fail
              refine HLO.out.mono ?_
              rintro e w6 ⟨rfl, hd6, ho6, hs6⟩
              have HV6 := Lib.hid (HVC.out.step0 HBK.out ho6 hs6 hd6 HDD.out.2.2)
              have HO6 := Lib.hid (HOC.out.trans (Only.mono ho6 (fun g _ hg => .inr ⟨k, hg⟩) : Only (fun g => g = y.ab ∨ ∃ i, S' i g) wc w6) (fun g hg => .inl hg))
              have HR6 := Lib.hid (ownsRow_same HOWC.out (fun b hb => ho6.block b (HOWC.out.lt b hb).2 (fun hS => by have := (HOWC.out.lt b hb).1; have := HVB.out.lt k b hS; omega)))
              clear hd6 ho6 hs6 hrow x2
              go_wp2_with fail
              go_meet
              exact ⟨rfl, by rw [HT.out]; exact HV6.out, HR6.out, HO6.out⟩
            case rest =>
             obtain ⟨rfl, hV5, hr5, ho5⟩ := hcut
             have hXc : Blk wc w3.heap.size 37 y.cells := (HGET.out wc ho5 _ HU1.out.1 (by have := HLTS.out.1; omega)).trans HXB.out
             have x0 := hXc.at_ (i := 0) (v := .slice (some ⟨y.gb, 0, none⟩) y.m y.cc) rfl
             have x1 := hXc.at_ (i := 1) (v := .int .i64 y.secs) rfl
             have x3 := hXc.at_ (i := 3) (v := .slice (some ⟨y.ab, 0, none⟩) y.bd.length y.bd.length) rfl
             clear x2 hrow
             have x2 := hXc.at_ (i := 2) (v := .slice (some ⟨y.lb, 0, none⟩) y.bd.length y.lc) rfl
             obtain ⟨hb, hhb⟩ : ∃ hb, (!bAt al k && !bAt ll k) = hb := ⟨_, rfl⟩
             have hHE := vHere_any hV5 (by omega) (k : Int)
             rw [show (decide ((0 : Int) ≤ k) && (decide ((k : Int) < y.bd.length) && hereD (awT al y.bd.length (k + 1)) (loT ll DD (k + 1)) (k : Int).toNat)) = hb by
              rw [decide_eq_true (show (0 : Int) ≤ k by omega), decide_eq_true (show (k : Int) < y.bd.length by have := HLT.out; omega), Int.toNat_natCast, hereD_lo HLT.out HDD.out.1 HDD.out.2.1, hhb]
              rfl] at hHE
             have HHE := Lib.hid hHE
             have HHB := Lib.hid hhb
             have HV5 := Lib.hid hV5
             have HR := Lib.hid hr5
             have HO := Lib.hid ho5
             have hkn := HLT.out
             clear hV5 hr5 ho5 HVC HOC HOWC HARC HLO hhb hHE hXc
             go_wp2_with fail
             refine HHE.out.mono ?_
             rintro e wh ⟨rfl, hbh⟩
             have HBH := Lib.hid hbh
             have hrh : wh.ownsRow wb.heap.size 4 1 u21 k (boolC (hrT al ll k)) := ownsRow_same HR.out (fun b hb => hbh.block b (HR.out.lt b hb).2)
             have HRH := Lib.hid hrh
             clear hbh hrh HHE
             go_wp2_with (at_builtin; refine wpList_append_own _ rfl _ _ 32 rfl wb.heap.size 4 i0 _ 1 1 Tryz.underlying32 hi hz0 hz1 hz2 rfl (by decide) _ _ _ rfl (HRH.out.alloc _) ⟨wh.heap.size, 0, none⟩ 1 1 [.bool hb] rfl rfl ?c1 ?c2 (by unfold maxLen; omega) (by omega) ?c5 ?_)
             try (case c1 => exact one_new' _ _ _)
             case c2 => first | rfl | (intro u hu; simp at hu; subst hu; rfl)
             case c5 => have := HO.out.size; have := HBH.out.size; simp; omega
             intro v' w5 hown' hgrow _
             have hown5 : w5.ownsRow wb.heap.size 4 1 v' (k + 1) (boolC (hrT al ll (k + 1))) := by
              rw [hrT_step, HHB.out]
              unfold boolC at hown' ⊢
              rw [List.map_append]
              exact hown'
             have ho5 : Only (fun g => u21.ownBlock = some g) wc w5 := ((Only.of_below (S := fun g => u21.ownBlock = some g) HBH.out).alloc _).trans (Only.of_grown' (S := fun g => u21.ownBlock = some g) hgrow (fun b e => e)) (fun g hg => .inl hg)
             have hnb : ∀ g, g < wb.heap.size → u21.ownBlock ≠ some g := fun g hg e => by have := (HR.out.lt g e).1; omega
             have hV5 : VdIn w5 S' U1 y (awT al y.bd.length (k + 1)) (loT ll DD (k + 1)) :=
              HV5.out.same ho5.size (fun b hb => ho5.block b (HV5.out.us b hb) (hnb b (HVB.out.us b hb))) (fun i b hb => ho5.block b (HV5.out.lt i b hb) (hnb b (HVB.out.lt i b hb)))
             have hO5 : Only (fun g => g = y.ab ∨ ∃ i, S' i g) wb w5 := HO.out.trans ho5 (fun g hg => .inr (HR.out.lt g hg).1)
             have HF5 := Lib.hid (And.intro hown5 (And.intro hV5 hO5))
             clear hown' hgrow hown5 ho5 hnb hV5 hO5
             go_wp2_with fail
             go_roundw
             case rel => exact ⟨k + 1, HLT.out, by go_num, HF5.out.2.1, HF5.out.1, HF5.out.2.2⟩
             case measure => have := HLT.out; simp [RowKit.intOf]; omega
        · obtain rfl : k = y.bd.length := by omega
          have hdc : decide ((y.bd.length : Int) < y.bd.length) = false := decide_eq_false (by omega)
          have hldb : LdB w wr A m c y.secs qd := HB9.out.1.same fun g h1 h2 => by
           have l2 : g < w2.heap.size := by have := HB2.out.rp.lt; omega
           exact (hU g (HU1.out.2 g l2) (by have := HLTS.out.2; omega)).trans (HEQ.out g (HU1.out.2 g l2))
          have x2 := hX.at_ (i := 2) (v := .slice (some ⟨y.lb, 0, none⟩) y.bd.length y.lc) rfl
          have HLD := Lib.hid hldb
          have HXW := Lib.hid hX
          have HVW := Lib.hid hV
          have HOW := Lib.hid hown
          have HONW := Lib.hid honly
          clear hldb hX hV hown honly hU harr
          go_wp2_with fail
          obtain ⟨S0, hS0⟩ : ∃ S0 : World → Prop, S0 = fun X => ∀ g : Nat, g ≠ w.heap.size + 1 + 1 → g ≠ w.heap.size + 1 + 1 + 1 → X.heap[g]? = (wr).heap[g]? := ⟨_, rfl⟩
          have hSw : S0 (wr).drew := by rw [hS0]; exact fun _ _ _ => rfl
          have f4 : ∀ X, S0 X → X.cell? ⟨w.heap.size + 1, 0, none⟩ = some (.int .i64 qd.ag) := fun X h => by rw [hS0] at h; exact (cell_same' (h _ (by omega) (by omega))).trans ((HLD.out).p.at_ rfl)
          have f5 : ∀ X, S0 X → X.cell? ⟨w.heap.size + 1, 1, none⟩ = some (.int .i64 qd.aa) := fun X h => by rw [hS0] at h; exact (cell_same' (h _ (by omega) (by omega))).trans ((HLD.out).p.at_ rfl)
          have f6 : ∀ X, S0 X → X.cell? ⟨w.heap.size + 1, 2, none⟩ = some (.int .i64 qd.bg) := fun X h => by rw [hS0] at h; exact (cell_same' (h _ (by omega) (by omega))).trans ((HLD.out).p.at_ rfl)
          have f7 : ∀ X, S0 X → X.cell? ⟨w.heap.size + 1, 3, none⟩ = some (.int .i64 qd.ba) := fun X h => by rw [hS0] at h; exact (cell_same' (h _ (by omega) (by omega))).trans ((HLD.out).p.at_ rfl)
          have f8 : ∀ X, S0 X → X.cell? ⟨w.heap.size + 1, 4, none⟩ = some (.bool qd.two) := fun X h => by rw [hS0] at h; exact (cell_same' (h _ (by omega) (by omega))).trans ((HLD.out).p.at_ rfl)
          have f9 : ∀ X, S0 X → X.cell? ⟨w.heap.size + 1, 5, none⟩ = some (.int .i64 qd.size) := fun X h => by rw [hS0] at h; exact (cell_same' (h _ (by omega) (by omega))).trans ((HLD.out).p.at_ rfl)
          have f10 : ∀ X, S0 X → X.cell? ⟨w.heap.size + 1, 6, none⟩ = some (.int .i64 qd.level) := fun X h => by rw [hS0] at h; exact (cell_same' (h _ (by omega) (by omega))).trans ((HLD.out).p.at_ rfl)
          have f11 : ∀ X, S0 X → X.cell? ⟨w.heap.size + 1, 7, none⟩ = some (.int .i64 qd.birth) := fun X h => by rw [hS0] at h; exact (cell_same' (h _ (by omega) (by omega))).trans ((HLD.out).p.at_ rfl)
          have f12 : ∀ X, S0 X → X.cell? ⟨w.heap.size + 1, 8, none⟩ = some (.int .u64 qd.s0) := fun X h => by rw [hS0] at h; exact (cell_same' (h _ (by omega) (by omega))).trans ((HLD.out).p.at_ rfl)
          have f13 : ∀ X, S0 X → X.cell? ⟨w.heap.size + 1, 9, none⟩ = some (.int .u64 qd.s1) := fun X h => by rw [hS0] at h; exact (cell_same' (h _ (by omega) (by omega))).trans ((HLD.out).p.at_ rfl)
          have f14 : ∀ X, S0 X → X.cell? ⟨w.heap.size + 1, 10, none⟩ = some (.int .u64 qd.s2) := fun X h => by rw [hS0] at h; exact (cell_same' (h _ (by omega) (by omega))).trans ((HLD.out).p.at_ rfl)
          have f15 : ∀ X, S0 X → X.cell? ⟨w.heap.size + 1, 11, none⟩ = some (.int .u64 qd.s3) := fun X h => by rw [hS0] at h; exact (cell_same' (h _ (by omega) (by omega))).trans ((HLD.out).p.at_ rfl)
          have HS0 := Lib.hid hS0
          clear hS0
          have f0 : ∀ X, S0 X → X.cell? ⟨w3.heap.size, 0, none⟩ = some (.slice (some ⟨y.gb, 0, none⟩) y.m y.cc) := fun X h => by rw [HS0.out] at h; exact (cell_same' (h _ (by have := HS3.out; omega) (by have := HS3.out; omega))).trans ((HXW.out).at_ rfl)
          have f1 : ∀ X, S0 X → X.cell? ⟨w3.heap.size, 1, none⟩ = some (.int .i64 y.secs) := fun X h => by rw [HS0.out] at h; exact (cell_same' (h _ (by have := HS3.out; omega) (by have := HS3.out; omega))).trans ((HXW.out).at_ rfl)
          have f2 : ∀ X, S0 X → X.cell? ⟨w3.heap.size, 2, none⟩ = some (.slice (some ⟨y.lb, 0, none⟩) y.bd.length y.lc) := fun X h => by rw [HS0.out] at h; exact (cell_same' (h _ (by have := HS3.out; omega) (by have := HS3.out; omega))).trans ((HXW.out).at_ rfl)
          have f3 : ∀ X, S0 X → X.cell? ⟨w3.heap.size, 3, none⟩ = some (.slice (some ⟨y.ab, 0, none⟩) y.bd.length y.bd.length) := fun X h => by rw [HS0.out] at h; exact (cell_same' (h _ (by have := HS3.out; omega) (by have := HS3.out; omega))).trans ((HXW.out).at_ rfl)
          refine G.wp_region_eff S0 [3, 4] 5 (by kernel_rfl) (by kernel_rfl) (by kernel_rfl) hSw ?_
          simp only [List.take_succ_cons, List.take_zero, List.drop_succ_cons, List.drop_zero]
          refine G.wpLexE_take 3 (by kernel_rfl) (by kernel_rfl) ?_
          simp only [List.take_succ_cons, List.take_zero, List.drop_succ_cons, List.drop_zero]
          repeat (first | go_big_quiet_skip | (go_big_quiet_want; go_big_quiet_op; first | go_big_quiet_on | (apply Exists.intro; refine ⟨fun W hW => ?_, ?_⟩; (focus ((first | exact rfl | exact ⟨rfl, rfl⟩ | (simp only [f0 W hW, f1 W hW, f2 W hW, f3 W hW, f4 W hW, f5 W hW, f6 W hW, f7 W hW, f8 W hW, f9 W hW, f10 W hW, f11 W hW, f12 W hW, f13 W hW, f14 W hW, f15 W hW, Result.andThen_ok]; first | done | exact ⟨trivial, rfl⟩ | exact rfl | exact ⟨rfl, rfl⟩) | (skip)); done)); go_big_quiet_on)))
          refine wpQuiet_nil ?_
          clear f0 f1 f2 f3 f4 f5 f6 f7 f8 f9 f10 f11 f12 f13 f14 f15 x2
          show G.wpLexE _ _ _ _ _ _ _ _ _
          refine G.wpLexE_effg (by kernel_rfl) rfl ?_
          obtain ⟨X1, hX1⟩ : ∃ z, (((((wr).setCell ⟨w.heap.size + 1 + 1, 0, none⟩ (.slice (some ⟨y.gb, 0, none⟩) y.m y.cc)).setCell ⟨w.heap.size + 1 + 1, 1, none⟩ (.int .i64 y.secs)).setCell ⟨w.heap.size + 1 + 1, 2, none⟩ (.slice (some ⟨y.lb, 0, none⟩) y.bd.length y.lc)).setCell ⟨w.heap.size + 1 + 1, 3, none⟩ (.slice (some ⟨y.ab, 0, none⟩) y.bd.length y.bd.length)).drew = z := ⟨_, rfl⟩
          have hx1 : Blk X1 (w.heap.size + 1 + 1) 37 #[.slice (some ⟨y.gb, 0, none⟩) y.m y.cc, .int .i64 y.secs, .slice (some ⟨y.lb, 0, none⟩) y.bd.length y.lc, .slice (some ⟨y.ab, 0, none⟩) y.bd.length y.bd.length] := by rw [← hX1]; exact (((((HLD.out).rx).put 0 (.slice (some ⟨y.gb, 0, none⟩) y.m y.cc)).put 1 (.int .i64 y.secs)).put 2 (.slice (some ⟨y.lb, 0, none⟩) y.bd.length y.lc)).put 3 (.slice (some ⟨y.ab, 0, none⟩) y.bd.length y.bd.length)
          have hx2 : Blk X1 (w.heap.size + 1 + 1 + 1) 31 #[.int .i64 0, .int .i64 0, .int .i64 0, .int .i64 0, .bool false, .int .i64 0, .int .i64 0, .int .i64 0, .int .u64 0, .int .u64 0, .int .u64 0, .int .u64 0] := by
           rw [← hX1]
           show Blk (((((_ : World).setCell _ _).setCell _ _).setCell _ _).setCell _ _) _ _ _
           refine Blk.far (Blk.far (Blk.far (Blk.far (HLD.out).rp ?_ _) ?_ _) ?_ _) ?_ _
           all_goals (intro hh; dsimp only at hh; omega)
          have hx3 : ∀ g, g ≠ w.heap.size + 1 + 1 → X1.heap[g]? = (wr).heap[g]? := fun g hg => by
           rw [← hX1]
           show (((((_ : World).setCell _ _).setCell _ _).setCell _ _).setCell _ _).heap[g]? = _
           rw [Below.heap_setCell _ _ _ g hg, Below.heap_setCell _ _ _ g hg, Below.heap_setCell _ _ _ g hg, Below.heap_setCell _ _ _ g hg]
          have hx4 : Only (fun g => g = w.heap.size + 1 + 1 ∨ g = w.heap.size + 1 + 1 + 1) (wr) X1 := by
           rw [← hX1]
           have hT : ∀ o, (fun g => g = w.heap.size + 1 + 1 ∨ g = w.heap.size + 1 + 1 + 1) (⟨w.heap.size + 1 + 1, o, none⟩ : Addr).block ∨ (wr).heap.size ≤ (⟨w.heap.size + 1 + 1, o, none⟩ : Addr).block := fun o => .inl (.inl rfl)
           exact (((((Only.refl (fun g => g = w.heap.size + 1 + 1 ∨ g = w.heap.size + 1 + 1 + 1) (wr)).set (hT 0) _).set (hT 1) _).set (hT 2) _).set (hT 3) _).drew
          have hS1 : S0 X1 := by rw [HS0.out]; exact fun g h1 _ => hx3 g h1
          have z0 : (wr).cell? ⟨w.heap.size + 1 + 1, 0, none⟩ = some (.slice none 0 0) := (HLD.out).rx.at_ rfl
          have y0 : (wr).frozen? ⟨w.heap.size + 1 + 1, 0, none⟩ = false := (HLD.out).rx.fr 0
          have z1 : (wr).cell? ⟨w.heap.size + 1 + 1, 1, none⟩ = some (.int .i64 0) := (HLD.out).rx.at_ rfl
          have y1 : (wr).frozen? ⟨w.heap.size + 1 + 1, 1, none⟩ = false := (HLD.out).rx.fr 1
          have z2 : (wr).cell? ⟨w.heap.size + 1 + 1, 2, none⟩ = some (.slice none 0 0) := (HLD.out).rx.at_ rfl
          have y2 : (wr).frozen? ⟨w.heap.size + 1 + 1, 2, none⟩ = false := (HLD.out).rx.fr 2
          have z3 : (wr).cell? ⟨w.heap.size + 1 + 1, 3, none⟩ = some (.slice none 0 0) := (HLD.out).rx.at_ rfl
          have y3 : (wr).frozen? ⟨w.heap.size + 1 + 1, 3, none⟩ = false := (HLD.out).rx.fr 3
          have HX1 := Lib.hid (And.intro hx1 (And.intro hx2 (And.intro hx3 hx4)))
          have HWX1 := Lib.hid hX1
          clear hx1 hx2 hx3 hx4 hX1
          go_wp2_with fail
          rw [HWX1.out]
          refine ⟨rfl, hS1, ?_⟩
          show G.wpLexE _ _ _ _ _ _ _ _ _
          refine G.wpLexE_effg (by kernel_rfl) rfl ?_
          clear z0 z1 z2 z3 y0 y1 y2 y3
          obtain ⟨X2, hX2⟩ : ∃ z, ((((((((((((X1.setCell ⟨w.heap.size + 1 + 1 + 1, 0, none⟩ (.int .i64 qd.ag)).setCell ⟨w.heap.size + 1 + 1 + 1, 1, none⟩ (.int .i64 qd.aa)).setCell ⟨w.heap.size + 1 + 1 + 1, 2, none⟩ (.int .i64 qd.bg)).setCell ⟨w.heap.size + 1 + 1 + 1, 3, none⟩ (.int .i64 qd.ba)).setCell ⟨w.heap.size + 1 + 1 + 1, 4, none⟩ (.bool qd.two)).setCell ⟨w.heap.size + 1 + 1 + 1, 5, none⟩ (.int .i64 qd.size)).setCell ⟨w.heap.size + 1 + 1 + 1, 6, none⟩ (.int .i64 qd.level)).setCell ⟨w.heap.size + 1 + 1 + 1, 7, none⟩ (.int .i64 qd.birth)).setCell ⟨w.heap.size + 1 + 1 + 1, 8, none⟩ (.int .u64 qd.s0)).setCell ⟨w.heap.size + 1 + 1 + 1, 9, none⟩ (.int .u64 qd.s1)).setCell ⟨w.heap.size + 1 + 1 + 1, 10, none⟩ (.int .u64 qd.s2)).setCell ⟨w.heap.size + 1 + 1 + 1, 11, none⟩ (.int .u64 qd.s3)) = z := ⟨_, rfl⟩
          have hX2' : X1.setCells (w.heap.size + 1 + 1 + 1) 0 [.int .i64 qd.ag, .int .i64 qd.aa, .int .i64 qd.bg, .int .i64 qd.ba, .bool qd.two, .int .i64 qd.size, .int .i64 qd.level, .int .i64 qd.birth, .int .u64 qd.s0, .int .u64 qd.s1, .int .u64 qd.s2, .int .u64 qd.s3] = X2 := hX2
          have hq1 : Blk X2 (w.heap.size + 1 + 1 + 1) 31 #[.int .i64 qd.ag, .int .i64 qd.aa, .int .i64 qd.bg, .int .i64 qd.ba, .bool qd.two, .int .i64 qd.size, .int .i64 qd.level, .int .i64 qd.birth, .int .u64 qd.s0, .int .u64 qd.s1, .int .u64 qd.s2, .int .u64 qd.s3] := by rw [← hX2']; exact HX1.out.2.1.putAll #[.int .i64 qd.ag, .int .i64 qd.aa, .int .i64 qd.bg, .int .i64 qd.ba, .bool qd.two, .int .i64 qd.size, .int .i64 qd.level, .int .i64 qd.birth, .int .u64 qd.s0, .int .u64 qd.s1, .int .u64 qd.s2, .int .u64 qd.s3] rfl
          have hq2 : ∀ g, g ≠ w.heap.size + 1 + 1 + 1 → X2.heap[g]? = X1.heap[g]? := fun g hg => by rw [← hX2']; exact sets_far' (w := X1) hg _ _ _
          have hq6 : Below 0 X1 X2 := by rw [← hX2']; exact below_sets _ _ (Below.refl _ _) (Nat.zero_le _)
          have hq5 : Only (fun g => g = w.heap.size + 1 + 1 ∨ g = w.heap.size + 1 + 1 + 1) X1 X2 := ⟨hq6.os, hq6.tape, hq6.output, hq6.size, fun i _ hn => hq2 i (fun e => hn (.inr e))⟩
          have hS2 : S0 X2 := by rw [HS0.out]; exact fun g h1 h2 => (hq2 g h2).trans (HX1.out.2.2.1 g h1)
          have hr1 : Blk X2 (w.heap.size + 1 + 1) 37 #[.slice (some ⟨y.gb, 0, none⟩) y.m y.cc, .int .i64 y.secs, .slice (some ⟨y.lb, 0, none⟩) y.bd.length y.lc, .slice (some ⟨y.ab, 0, none⟩) y.bd.length y.bd.length] := (hq2 _ (by omega)).trans HX1.out.1
          have z0 := HX1.out.2.1.at_ (i := 0) (v := .int .i64 0) rfl
          have y0 := HX1.out.2.1.fr 0
          have z1 := HX1.out.2.1.at_ (i := 1) (v := .int .i64 0) rfl
          have y1 := HX1.out.2.1.fr 1
          have z2 := HX1.out.2.1.at_ (i := 2) (v := .int .i64 0) rfl
          have y2 := HX1.out.2.1.fr 2
          have z3 := HX1.out.2.1.at_ (i := 3) (v := .int .i64 0) rfl
          have y3 := HX1.out.2.1.fr 3
          have z4 := HX1.out.2.1.at_ (i := 4) (v := .bool false) rfl
          have y4 := HX1.out.2.1.fr 4
          have z5 := HX1.out.2.1.at_ (i := 5) (v := .int .i64 0) rfl
          have y5 := HX1.out.2.1.fr 5
          have z6 := HX1.out.2.1.at_ (i := 6) (v := .int .i64 0) rfl
          have y6 := HX1.out.2.1.fr 6
          have z7 := HX1.out.2.1.at_ (i := 7) (v := .int .i64 0) rfl
          have y7 := HX1.out.2.1.fr 7
          have z8 := HX1.out.2.1.at_ (i := 8) (v := .int .u64 0) rfl
          have y8 := HX1.out.2.1.fr 8
          have z9 := HX1.out.2.1.at_ (i := 9) (v := .int .u64 0) rfl
          have y9 := HX1.out.2.1.fr 9
          have z10 := HX1.out.2.1.at_ (i := 10) (v := .int .u64 0) rfl
          have y10 := HX1.out.2.1.fr 10
          have z11 := HX1.out.2.1.at_ (i := 11) (v := .int .u64 0) rfl
          have y11 := HX1.out.2.1.fr 11
          have HR := Lib.hid (And.intro hr1 (And.intro hq1 (HX1.out.2.2.2.trans hq5 (fun g hg => .inl hg))))
          have HWX2 := Lib.hid hX2
          clear hr1 hq1 hq2 hq5 hq6 hX2 hX2' HWX1
          go_wp2_with fail
          rw [HWX2.out]
          refine ⟨rfl, hS2, ?_⟩
          show wpList _ _ _ _ _ _
          clear hS1 hS2
          clear z0 y0 z1 y1 z2 y2 z3 y3 z4 y4 z5 y5 z6 y6 z7 y7 z8 y8 z9 y9 z10 y10 z11 y11
          go_wp2_with fail
          have e0 := HR.out.1.at_ (i := 0) (v := .slice (some ⟨y.gb, 0, none⟩) y.m y.cc) rfl
          have e1 := HR.out.1.at_ (i := 1) (v := .int .i64 y.secs) rfl
          have e2 := HR.out.1.at_ (i := 2) (v := .slice (some ⟨y.lb, 0, none⟩) y.bd.length y.lc) rfl
          have e3 := HR.out.1.at_ (i := 3) (v := .slice (some ⟨y.ab, 0, none⟩) y.bd.length y.bd.length) rfl
          have e4 := HR.out.2.1.at_ (i := 0) (v := .int .i64 qd.ag) rfl
          have e5 := HR.out.2.1.at_ (i := 1) (v := .int .i64 qd.aa) rfl
          have e6 := HR.out.2.1.at_ (i := 2) (v := .int .i64 qd.bg) rfl
          have e7 := HR.out.2.1.at_ (i := 3) (v := .int .i64 qd.ba) rfl
          have e8 := HR.out.2.1.at_ (i := 4) (v := .bool qd.two) rfl
          have e9 := HR.out.2.1.at_ (i := 5) (v := .int .i64 qd.size) rfl
          have e10 := HR.out.2.1.at_ (i := 6) (v := .int .i64 qd.level) rfl
          have e11 := HR.out.2.1.at_ (i := 7) (v := .int .i64 qd.birth) rfl
          have e12 := HR.out.2.1.at_ (i := 8) (v := .int .u64 qd.s0) rfl
          have e13 := HR.out.2.1.at_ (i := 9) (v := .int .u64 qd.s1) rfl
          have e14 := HR.out.2.1.at_ (i := 10) (v := .int .u64 qd.s2) rfl
          have e15 := HR.out.2.1.at_ (i := 11) (v := .int .u64 qd.s3) rfl
          refine bodyPost_ret (v := .tuple #[.agg #[.slice (some ⟨y.gb, 0, none⟩) y.m y.cc, .int .i64 y.secs, .slice (some ⟨y.lb, 0, none⟩) y.bd.length y.lc, .slice (some ⟨y.ab, 0, none⟩) y.bd.length y.bd.length], .agg #[.int .i64 qd.ag, .int .i64 qd.aa, .int .i64 qd.bg, .int .i64 qd.ba, .bool qd.two, .int .i64 qd.size, .int .i64 qd.level, .int .i64 qd.birth, .int .u64 qd.s0, .int .u64 qd.s1, .int .u64 qd.s2, .int .u64 qd.s3], u21, .bool true]) (by simp [results, Tryz.f9, go_sem, e0, e1, e2, e3, e4, e5, e6, e7, e8, e9, e10, e11, e12, e13, e14, e15]) rfl ?_
          unfold LdPost
          rw [if_pos ⟨hbad.1, hbad.2, HP.out.1, by have := HP.out.2.2.2.1; omega, by rw [HQD.out]; exact HRB.out⟩]
          unfold LdYes
          have hp := HB2.out.rp.lt
          have hlt3 := HV3.out.2.2
          have hSU : ∀ i b, S' i b → w2.heap.size ≤ b := fun i b hS => by
           by_cases hb : b < w2.heap.size
           · exact absurd (HU1.out.2 b hb) (HVB.out.fx i b hS)
           · omega
          have hVf := HVW.out.only HR.out.2.2 (fun g hg => ⟨HU1.out.2 g (by omega), by omega, by omega, by omega⟩)
          have h9b : w9.heap.size ≤ wb.heap.size := HST.out.size
          have h39 : w3.heap.size ≤ w9.heap.size := HB9.out.2.size
          have h23 : w2.heap.size ≤ w3.heap.size := HB3.out.size
          have hx2s := HR.out.2.2.size
          have hbw := HONW.out.size
          rw [HQD.out, HLL.out.2.2.2.1]
          refine ⟨y, S', fun b => U1 b ∨ (wb.heap.size ≤ b ∧ b < wr.heap.size), u21, rfl, rfl, rfl, by rw [HDS.out.1, HDS.out.2.1, HOKD.out.2.2]; exact hVf.wide (fun b hb => .inl hb) (fun b hb => hb.elim (fun hb => hVf.us b hb) (fun hb => by omega)) (fun i b hS hb => hb.elim (fun hb => hVf.fx i b hS hb) (fun hb => by have := HVB.out.lt i b hS; omega)), HP.out.2.2.2.2.1, HP.out.2.2.2.2.2, HP.out.2.2.2.1, HP.out.2.2.1, fun b hb => .inl (HU1.out.2 b (by have := HD2.out.size; omega)), ?_, ⟨by omega, by omega, by omega⟩, ?_⟩
          · have hsu : SlU wr (fun b => wb.heap.size ≤ b ∧ b < wr.heap.size) u21 y.bd.length (boolC (hrT al ll y.bd.length)) := slU_own HOW.out (fun b h6 h7 => ⟨h6, h7⟩)
            exact (hsu.same (fun b hb => HR.out.2.2.block b hb.2 (fun hg => by omega))).mono (fun b hb => .inr hb)
          · have b1 : Below w.heap.size w w9 := HD3.out.trans (HB9.out.2.below (by have := HS3.out; omega) (fun g hg => by omega))
            have b2 : Below w.heap.size w9 wb := HST.out.below b1.size (fun i hi => HU1.out.2 i (by have := HD2.out.size; omega))
            have b3 : Below w.heap.size wb wr := HONW.out.below (by have := b1.size; omega) (fun g hg => by
             rcases hg with hg | ⟨i, hg⟩
             · omega
             · have := hSU i g hg; omega)
            have b4 : Below w.heap.size wr X2 := HR.out.2.2.below (by have := b1.size; omega) (fun g hg => by omega)
            exact ((b1.trans b2).trans b3).trans b4
end Go.Proofs.YtbhkbcpljakmjaaGreat
