/-
  Contracts of package geom, second part: Sectors, Devs, First.
  Contracts of package cols: the columns of a block.
  Contracts of package cols, second part: mirror, parity, Of.
  Contracts of package cols, third part: parity and its closure.
  Contracts of package cols, fourth part: parity, Of.
-/
import Derived.Test.YtlpbbjjibnbooaaGreatDoorJ01
import Derived.Deep.RegionLaw
namespace Go.Proofs.YtlpbbjjibnbooaaGreatDoor
open Go.RowKit
set_option linter.unusedVariables false

def gSectors (gs : List (Int × Int)) (secs g : Int) : Int := if gHas gs secs g then (if (grAt gs g).1 == 1 then (secs - 16) * (grAt gs g).2 else secs - 16) else 0
def gSum (gs : List (Int × Int)) : Int := (gs.map (·.2)).sum
def gDevs (gs : List (Int × Int)) (secs : Int) : Int := if gRight gs secs then gSum gs else 0
def gFirst (gs : List (Int × Int)) (secs g : Int) : Int := if gHas gs secs g then gSum (gs.take g.toNat) else 0

theorem mul_bd {a b : Int} (h1 : 0 ≤ a) (h2 : a ≤ 4096) (h3 : 1 ≤ b) (h4 : b ≤ 8) : 0 ≤ a * b ∧ a * b ≤ 32768 := by
  have : b = 1 ∨ b = 2 ∨ b = 3 ∨ b = 4 ∨ b = 5 ∨ b = 6 ∨ b = 7 ∨ b = 8 := by omega
  rcases this with rfl | rfl | rfl | rfl | rfl | rfl | rfl | rfl <;> omega

theorem sectors_any (A : Option Addr) (n c : Nat) (gs : List (Int × Int)) (secs g : Int) (w : World) (hg : GeoAt w A n gs) :
    Calls Tryz.prog 141 #[.agg #[.slice A n c, .int .i64 secs], .int .i64 g] w fun e w' => e = .returned (.int .i64 (gSectors gs secs g)) ∧ Below w.heap.size w w' := by
  have hb0 : Below w.heap.size w (w.alloc (Obj.cells #[Value.slice A n c, Value.int IntKind.i64 secs] 24)) := (Below.refl _ _).alloc (Nat.le_refl _) _
  have H := Lib.hid (has_any A n c gs secs g (w.alloc (Obj.cells #[Value.slice A n c, Value.int IntKind.i64 secs] 24)) (hg.below hb0 (Nat.le_refl _)))
  by_cases hh : gHas gs secs g = true
  · obtain ⟨k, x, rfl, hk, hl4, hs1, hs2, hx, hgx, ho⟩ := gHas_true hh
    have ho' := gOne_true ho
    obtain ⟨b, off, rfl, hgs⟩ := hg.2.2 (by have := hg.1; omega)
    have hl := hg.1
    have hkn : (k : Int) < n := by omega
    have HX := Lib.hid hx
    have HH := Lib.hid hh
    have ht : Hid (gSectors gs secs k = if x.1 == 1 then (secs - 16) * x.2 else secs - 16) := by unfold Hid gSectors; rw [hh, hgx]; rfl
    clear hx hgx hh hl hg
    obtain ⟨kd, wd⟩ := x
    have hm := mul_bd (a := secs - 16) (b := wd) (by omega) (by omega)
    rcases ho' with ⟨e, hw1, hw2⟩ | ⟨e, hw1, hw2⟩
    all_goals
      simp only at e hw1 hw2
      subst e
      have hm1 := (hm (by omega) hw2).1
      have hm2 := (hm (by omega) hw2).2
      clear hm
      go_enter Tryz.func141, Tryz.ntmps141
      go_wp2_with fail
      refine H.out.mono ?_
      rintro e w1 ⟨rfl, hb1⟩
      have hb2 := hb0.trans (hb1.mono (by simp))
      obtain ⟨hc1, hc2⟩ := (hgs.below hb2 (Nat.le_refl _)).2 k _ HX.out
      obtain ⟨hc, hf⟩ := bcell hb1
      have hh := HH.out
      have hsz := hb1.size
      simp at hsz
      go_wp2
      go_ret
      refine ⟨ret_int ?_, hb2.alloc (by omega) _⟩
      rw [ht.out]
      simp
  · have hh' : gHas gs secs g = false := by simpa using hh
    have ht : Hid (gSectors gs secs g = 0) := by unfold Hid gSectors; rw [hh']; rfl
    clear hg hh
    have HH := Lib.hid hh'
    clear hh'
    go_enter Tryz.func141, Tryz.ntmps141
    go_wp2_with fail
    refine H.out.mono ?_
    rintro e w1 ⟨rfl, hb1⟩
    have hb2 := hb0.trans (hb1.mono (by simp))
    obtain ⟨hc, hf⟩ := bcell hb1
    have hh := HH.out
    go_wp2
    go_ret
    exact ⟨ret_int ht.out.symm, hb2⟩

theorem gSum_take {gs : List (Int × Int)} {k : Nat} {x : Int × Int} (hx : gs[k]? = some x) : gSum (gs.take (k + 1)) = gSum (gs.take k) + x.2 := by
  obtain ⟨hk, e⟩ := List.getElem?_eq_some_iff.1 hx
  rw [List.take_succ_eq_append_getElem hk, e]
  simp [gSum, List.sum_append]
theorem gSum_bd {gs : List (Int × Int)} (h : ∀ x ∈ gs, 0 ≤ x.2 ∧ x.2 ≤ 8) : 0 ≤ gSum gs ∧ gSum gs ≤ 8 * gs.length := by
  induction gs with
  | nil => simp [gSum]
  | cons x gs ih =>
    have h1 := h x (by simp)
    have h2 := ih fun y hy => h y (by simp [hy])
    simp only [gSum, List.map_cons, List.sum_cons, List.length_cons] at h2 ⊢
    omega
theorem gRight_parts {gs : List (Int × Int)} {secs : Int} (h : gRight gs secs = true) : 1 ≤ gs.length ∧ gs.length ≤ 4 ∧ 24 ≤ secs ∧ secs ≤ 4096 ∧ ∀ x ∈ gs, gOne x = true := by
  simp only [gRight, Bool.and_eq_true, decide_eq_true_eq, List.all_eq_true] at h
  exact ⟨h.1.1.1.1, h.1.1.1.2, h.1.1.2, h.1.2, h.2⟩

theorem sum_take_bd {gs : List (Int × Int)} {secs : Int} (h : gRight gs secs = true) (k : Nat) : 0 ≤ gSum (gs.take k) ∧ gSum (gs.take k) ≤ 32 := by
  obtain ⟨_, h2, _, _, h5⟩ := gRight_parts h
  have := gSum_bd (gs := gs.take k) fun x hx => by have := gOne_true (h5 x (List.mem_of_mem_take hx)); omega
  have hl := List.length_take_le k gs
  have hl2 : (gs.take k).length ≤ gs.length := by rw [List.length_take]; omega
  omega

theorem devs_any (A : Option Addr) (n c : Nat) (gs : List (Int × Int)) (secs : Int) (w : World) (hg : GeoAt w A n gs) :
    Calls Tryz.prog 81 #[.agg #[.slice A n c, .int .i64 secs]] w fun e w' => e = .returned (.int .i64 (gDevs gs secs)) ∧ Below w.heap.size w w' := by
  have hb0 : Below w.heap.size w (w.alloc (Obj.cells #[Value.slice A n c, Value.int IntKind.i64 secs] 24)) := (Below.refl _ _).alloc (Nat.le_refl _) _
  have H := Lib.hid (right_any A n c gs secs (w.alloc (Obj.cells #[Value.slice A n c, Value.int IntKind.i64 secs] 24)) (hg.below hb0 (Nat.le_refl _)))
  by_cases hh : gRight gs secs = true
  · obtain ⟨hl1, hl4, hs1, hs2, hone⟩ := gRight_parts hh
    obtain ⟨b, off, rfl, hgs⟩ := hg.2.2 (by have := hg.1; omega)
    have hl := Lib.hid hg.1
    have hn2 := hg.2.1
    have ht : Hid (gDevs gs secs = gSum gs) := by unfold Hid gDevs; rw [hh]; rfl
    have HH := Lib.hid hh
    have HB := Lib.hid (sum_take_bd hh)
    clear hh hg
    go_enter Tryz.func81, Tryz.ntmps81
    go_wp2_with fail
    refine H.out.mono ?_
    rintro e w1 ⟨rfl, hb1⟩
    have hb2 := hb0.trans (hb1.mono (by simp))
    obtain ⟨hc, hf⟩ := bcell hb1
    have hh := HH.out
    go_wp2
    go_loopw [3, 12] (fun s t wr => ∃ k : Nat, k ≤ n ∧ t = .int .i64 k ∧ s = .int .i64 (gSum (gs.take k)) ∧ Below w.heap.size w wr) (fun _ t _ => n - (RowKit.intOf t).toNat)
    case atStart => exact ⟨0, Nat.zero_le _, rfl, rfl, hb2⟩
    case round =>
      obtain ⟨k, hk, rfl, rfl, hb⟩ := hrel
      clear hc hf
      by_cases hlt : k < n
      · obtain ⟨x, hx⟩ : ∃ x, gs[k]? = some x := ⟨_, List.getElem?_eq_getElem (by have := hl.out; omega)⟩
        obtain ⟨hc1, hc2⟩ := (hgs.below hb (Nat.le_refl _)).2 k x hx
        have hs := Lib.hid (gSum_take hx)
        have hB1 := HB.out k
        have hB2 := HB.out (k + 1)
        rw [hs.out] at hB2
        clear hx
        go_wp2
        go_roundw
        case rel => exact ⟨k + 1, by omega, by go_num, by rw [hs.out], hb.alloc hb.size _⟩
        case measure => simp [RowKit.intOf]; omega
      · go_wp2
        go_ret
        exact ⟨ret_int (by rw [ht.out, List.take_of_length_le (by have := hl.out; omega)]), hb⟩
  · have hh' : gRight gs secs = false := by simpa using hh
    have ht : Hid (gDevs gs secs = 0) := by unfold Hid gDevs; rw [hh']; rfl
    clear hg hh
    have HH := Lib.hid hh'
    clear hh'
    go_enter Tryz.func81, Tryz.ntmps81
    go_wp2_with fail
    refine H.out.mono ?_
    rintro e w1 ⟨rfl, hb1⟩
    have hb2 := hb0.trans (hb1.mono (by simp))
    obtain ⟨hc, hf⟩ := bcell hb1
    have hh := HH.out
    go_wp2
    go_ret
    exact ⟨ret_int ht.out.symm, hb2⟩

theorem first_any (A : Option Addr) (n c : Nat) (gs : List (Int × Int)) (secs g : Int) (w : World) (hg : GeoAt w A n gs) :
    Calls Tryz.prog 128 #[.agg #[.slice A n c, .int .i64 secs], .int .i64 g] w fun e w' => e = .returned (.int .i64 (gFirst gs secs g)) ∧ Below w.heap.size w w' := by
  have hb0 : Below w.heap.size w (w.alloc (Obj.cells #[Value.slice A n c, Value.int IntKind.i64 secs] 24)) := (Below.refl _ _).alloc (Nat.le_refl _) _
  have H := Lib.hid (has_any A n c gs secs g (w.alloc (Obj.cells #[Value.slice A n c, Value.int IntKind.i64 secs] 24)) (hg.below hb0 (Nat.le_refl _)))
  by_cases hh : gHas gs secs g = true
  · obtain ⟨kg, x, rfl, hk, hl4, hs1, hs2, hx, hgx, ho⟩ := gHas_true hh
    obtain ⟨b, off, rfl, hgs⟩ := hg.2.2 (by have := hg.1; omega)
    have hl := Lib.hid hg.1
    have hkn : kg < n := by have := hl.out; omega
    have hn2 := hg.2.1
    have hr : gRight gs secs = true := by simp only [gHas, Bool.and_eq_true] at hh; exact hh.1.1
    have ht : Hid (gFirst gs secs kg = gSum (gs.take kg)) := by unfold Hid gFirst; rw [hh]; simp
    have HH := Lib.hid hh
    have HB := Lib.hid (sum_take_bd hr)
    clear hh hg hr hx hgx ho
    go_enter Tryz.func128, Tryz.ntmps128
    go_wp2_with fail
    refine H.out.mono ?_
    rintro e w1 ⟨rfl, hb1⟩
    have hb2 := hb0.trans (hb1.mono (by simp))
    obtain ⟨hc, hf⟩ := bcell hb1
    have hcA : w1.cell? ⟨w.heap.size, 0, none⟩ = some (.slice (some ⟨b, off, none⟩) n c) := by rw [hc _ _ (by simp)]; simp
    have hsz : w.heap.size < w1.heap.size := by have := hb1.size; simp at this; omega
    have hh := HH.out
    go_wp2
    go_loopw [5, 12] (fun s t wr => ∃ k : Nat, k ≤ kg ∧ t = .int .i64 k ∧ s = .int .i64 (gSum (gs.take k)) ∧ Below w1.heap.size w1 wr) (fun _ t _ => kg - (RowKit.intOf t).toNat)
    case atStart => exact ⟨0, Nat.zero_le _, rfl, rfl, Below.refl _ _⟩
    case round =>
      obtain ⟨k, hk, rfl, rfl, hb⟩ := hrel
      clear hc hf
      by_cases hlt : k < kg
      · obtain ⟨x, hx⟩ : ∃ x, gs[k]? = some x := ⟨_, List.getElem?_eq_getElem (by have := hl.out; omega)⟩
        obtain ⟨hc1, hc2⟩ := (hgs.below (hb2.trans (hb.mono (by omega))) (Nat.le_refl _)).2 k x hx
        have hcB := (hb.cell (p := ⟨w.heap.size, 0, none⟩) hsz).trans hcA
        have hs := Lib.hid (gSum_take hx)
        have hB1 := HB.out k
        have hB2 := HB.out (k + 1)
        rw [hs.out] at hB2
        clear hx
        go_wp2
        go_roundw
        case rel => exact ⟨k + 1, by omega, by go_num, by rw [hs.out], hb⟩
        case measure => simp [RowKit.intOf]; omega
      · go_wp2
        go_ret
        obtain rfl : k = kg := by omega
        exact ⟨ret_int ht.out.symm, hb2.trans (hb.mono (by omega))⟩
  · have hh' : gHas gs secs g = false := by simpa using hh
    have ht : Hid (gFirst gs secs g = 0) := by unfold Hid gFirst; rw [hh']; rfl
    clear hg hh
    have HH := Lib.hid hh'
    clear hh'
    go_enter Tryz.func128, Tryz.ntmps128
    go_wp2_with fail
    refine H.out.mono ?_
    rintro e w1 ⟨rfl, hb1⟩
    have hb2 := hb0.trans (hb1.mono (by simp))
    obtain ⟨hc, hf⟩ := bcell hb1
    have hh := HH.out
    go_wp2
    go_ret
    exact ⟨ret_int ht.out.symm, hb2⟩
end Go.Proofs.YtlpbbjjibnbooaaGreatDoor

namespace Go.Proofs.YtlpbbjjibnbooaaGreatDoor
open Go.RowKit
set_option linter.unusedVariables false

def cMay (gs : List (Int × Int)) (secs pg pa size : Int) : Bool := decide (0 < gTakes gs secs pg size) && (decide (0 ≤ pa) && decide (pa ≤ gSectors gs secs pg - gTakes gs secs pg size))

theorem gTakes_bd (gs : List (Int × Int)) (secs g size : Int) : 0 ≤ gTakes gs secs g size ∧ gTakes gs secs g size ≤ 8 := by
  unfold gTakes
  split
  · next h =>
    simp only [Bool.and_eq_true, decide_eq_true_eq] at h
    obtain ⟨⟨h1, h2⟩, h3⟩ := h
    obtain ⟨k, x, rfl, _, _, _, _, _, hgx, ho⟩ := gHas_true h1
    rw [hgx]
    obtain ⟨kd, wd⟩ := x
    unfold gTake1
    rcases gOne_true ho with ⟨e, hw1, hw2⟩ | ⟨e, hw1, hw2⟩
    · simp only at e; subst e; simp; omega
    · simp only at e hw1 hw2; subst e
      have := par_rows h2 h3 hw1 hw2
      simp; omega
  · omega
theorem gSectors_bd (gs : List (Int × Int)) (secs g : Int) : 0 ≤ gSectors gs secs g ∧ gSectors gs secs g ≤ 32768 := by
  unfold gSectors
  split
  · next h =>
    obtain ⟨k, x, rfl, _, _, _, _, _, hgx, ho⟩ := gHas_true h
    rw [hgx]
    obtain ⟨kd, wd⟩ := x
    rcases gOne_true ho with ⟨e, hw1, hw2⟩ | ⟨e, hw1, hw2⟩
    · simp only at e; subst e; simp; omega
    · simp only at e hw1 hw2; subst e
      have := mul_bd (a := secs - 16) (b := wd) (by omega) (by omega) (by omega) hw2
      simpa using this
  · omega

theorem may_any (A : Option Addr) (n c : Nat) (gs : List (Int × Int)) (secs pg pa size : Int) (w : World) (hg : GeoAt w A n gs) :
    Calls Tryz.prog 127 #[.agg #[.slice A n c, .int .i64 secs], .agg #[.int .i64 pg, .int .i64 pa], .int .i64 size] w fun e w' => e = .returned (.bool (cMay gs secs pg pa size)) ∧ Below w.heap.size w w' := by
  have hb0 : Below w.heap.size w ((w.alloc (Obj.cells #[Value.slice A n c, Value.int IntKind.i64 secs] 24)).alloc (Obj.cells #[Value.int IntKind.i64 pg, Value.int IntKind.i64 pa] 26)) :=
    ((Below.refl _ _).alloc (Nat.le_refl _) _).alloc (by simp) _
  have H := Lib.hid (takes_any A n c gs secs pg size _ (hg.below hb0 (Nat.le_refl _)))
  have H2 : Hid (∀ w1, Below w.heap.size w w1 → Calls Tryz.prog 141 #[.agg #[.slice A n c, .int .i64 secs], .int .i64 pg] w1 fun e w' => e = .returned (.int .i64 (gSectors gs secs pg)) ∧ Below w1.heap.size w1 w') :=
    Lib.hid fun w1 hb => sectors_any A n c gs secs pg w1 (hg.below hb (Nat.le_refl _))
  obtain ⟨ht1, ht2⟩ := gTakes_bd gs secs pg size
  obtain ⟨hs1, hs2⟩ := gSectors_bd gs secs pg
  clear hg
  have he : Hid (cMay gs secs pg pa size = (decide (0 < gTakes gs secs pg size) && (decide (0 ≤ pa) && decide (pa ≤ gSectors gs secs pg - gTakes gs secs pg size)))) := Lib.hid rfl
  generalize gTakes gs secs pg size = T at *
  generalize gSectors gs secs pg = S at *
  by_cases hpos : 0 < T ∧ 0 ≤ pa
  · obtain ⟨hp1, hp2⟩ := hpos
    go_enter Tryz.func127, Tryz.ntmps127
    go_wp2_with fail
    refine H.out.mono ?_
    rintro e w1 ⟨rfl, hb1⟩
    have hb2 := hb0.trans (hb1.mono (by simp; omega))
    obtain ⟨hc, hf⟩ := bcell hb1
    have k1 : w1.cell? ⟨w.heap.size, 0, none⟩ = some (.slice A n c) := by rw [hc _ _ (by simp; omega)]; simp
    have k2 : w1.cell? ⟨w.heap.size, 1, none⟩ = some (.int .i64 secs) := by rw [hc _ _ (by simp; omega)]; simp
    have k3 : w1.cell? ⟨w.heap.size + 1, 0, none⟩ = some (.int .i64 pg) := by rw [hc _ _ (by simp)]; simp
    have k4 : w1.cell? ⟨w.heap.size + 1, 1, none⟩ = some (.int .i64 pa) := by rw [hc _ _ (by simp)]; simp
    have hsz : w.heap.size + 2 ≤ w1.heap.size := by have := hb1.size; simp at this; omega
    clear hc hf hb1 hb0 H
    go_wp2_with fail
    go_region_held3 (fun W => W.cell? ⟨w.heap.size, 0, none⟩ = some (.slice A n c) ∧ W.cell? ⟨w.heap.size, 1, none⟩ = some (.int .i64 secs) ∧ W.cell? ⟨w.heap.size + 1, 0, none⟩ = some (.int .i64 pg) ∧
        W.cell? ⟨w.heap.size + 1, 1, none⟩ = some (.int .i64 pa) ∧ w.heap.size + 2 ≤ W.heap.size ∧ Below w.heap.size w W)
      (refine ⟨?_, ?_, ?_, ?_, ?_, ?_⟩ <;> first | assumption | exact hb2.drew | omega | exact keep_cell (by assumption) (by assumption) (by omega) | exact keep_below (by assumption) (by assumption) | exact keep_size (by assumption) (by assumption) | go_keep)
      (first | (go_at_call 141; obtain ⟨s1, s2, s3, s4, s5, s6⟩ := ‹_ ∧ _ ∧ _ ∧ _ ∧ _ ∧ Below w.heap.size w _›; refine (H2.out _ s6).mono ?_; rintro e w2 ⟨rfl, hb3⟩))
    go_wp2
    go_ret
    obtain ⟨_, _, _, _, _, h6⟩ := ‹_ ∧ _ ∧ _ ∧ _ ∧ _ ∧ Below w.heap.size w w2›
    have hw : IntKind.i64.wrap (S - T) = S - T := by rw [IntKind.wrap_i64]; omega
    refine ⟨ret_bool ?_, h6⟩
    rw [hw, he.out, decide_eq_true hp1, decide_eq_true hp2]
    rfl
  · have he2 : Hid (cMay gs secs pg pa size = false) := by
      unfold Hid; rw [he.out]
      by_cases h : 0 < T
      · have : ¬ 0 ≤ pa := by omega
        simp [this]
      · simp [h]
    clear he H2
    by_cases h : 0 < T
    · have hd : decide (0 ≤ pa) = false := by simp; omega
      have hd' : pa < 0 := by omega
      clear hpos
      go_enter Tryz.func127, Tryz.ntmps127
      go_wp2_with fail
      refine H.out.mono ?_
      rintro e w1 ⟨rfl, hb1⟩
      have hb2 := hb0.trans (hb1.mono (by simp; omega))
      obtain ⟨hc, hf⟩ := bcell hb1
      have k4 : w1.cell? ⟨w.heap.size + 1, 1, none⟩ = some (.int .i64 pa) := by rw [hc _ _ (by simp)]; simp
      clear hc hf
      go_wp2_with fail
      go_quiet (fail)
      go_wp2
      go_ret
      exact ⟨ret_bool he2.out.symm, below_drewN hb2 _⟩
    · have hd : decide (0 < T) = false := by simp; omega
      have hd' : T ≤ 0 := by omega
      clear hpos
      go_enter Tryz.func127, Tryz.ntmps127
      go_wp2_with fail
      refine H.out.mono ?_
      rintro e w1 ⟨rfl, hb1⟩
      have hb2 := hb0.trans (hb1.mono (by simp; omega))
      go_wp2_with fail
      go_quiet (fail)
      go_wp2
      go_ret
      exact ⟨ret_bool he2.out.symm, below_drewN hb2 _⟩
end Go.Proofs.YtlpbbjjibnbooaaGreatDoor

namespace Go.Proofs.YtlpbbjjibnbooaaGreatDoor
open Go.RowKit
set_option linter.unusedVariables false

/-- A column: device, sector, parity, row. -/
abbrev Col := Int × Int × Bool × Int
def colCells (c : Col) : List Value := [.int .i64 c.1, .int .i64 c.2.1, .bool c.2.2.1, .int .i64 c.2.2.2]
def colsCells (l : List Col) : List Value := l.flatMap colCells
theorem colsCells_snoc (l : List Col) (c : Col) : colsCells (l ++ [c]) = colsCells l ++ colCells c := by simp [colsCells, List.flatMap_append]
def mcol (first at_ : Int) (d i : Nat) : Col := (first + d, 16 + at_ + i, false, i)
def mirTo (first at_ : Int) (size d i : Nat) : List Col := (List.range d).flatMap (fun d => (List.range size).map (mcol first at_ d)) ++ (List.range i).map (mcol first at_ d)
def mirror (first at_ : Int) (wide size : Nat) : List Col := mirTo first at_ size wide 0
theorem mirTo_step (first at_ : Int) (size d i : Nat) : mirTo first at_ size d (i + 1) = mirTo first at_ size d i ++ [mcol first at_ d i] := by
  simp [mirTo, List.range_succ]
theorem mirTo_row (first at_ : Int) (size d : Nat) : mirTo first at_ size (d + 1) 0 = mirTo first at_ size d size := by
  simp [mirTo, List.range_succ]
theorem mirTo_len (first at_ : Int) (size d i : Nat) : (mirTo first at_ size d i).length = d * size + i := by
  have : ∀ n : Nat, (List.map (fun _ : Nat => size) (List.range n)).sum = n * size := by
    intro n
    induction n with
    | zero => simp
    | succ n ih => rw [List.range_succ, List.map_append, List.sum_append, ih]; simp [Nat.add_mul]
  simp [mirTo, List.length_flatMap, this]

theorem Tryz.infoCol : (Tryz.prog.info? 193).map (fun i => (i.zero, i.size, i.bytes)) = some (some (.agg #[.int .i64 0, .int .i64 0, .bool false, .int .i64 0]), 4, 32) := by kernel_rfl

theorem col_new (w : World) (c : Col) (t : TypeId) : ∀ j u, (colCells c)[j]? = some u → (w.alloc (.cells #[.int .i64 c.1, .int .i64 c.2.1, .bool c.2.2.1, .int .i64 c.2.2.2] t)).cell? ((⟨w.heap.size, 0, none⟩ : Addr).add j) = some u := by
  intro j u hu
  match j, hu with
  | 0, hu => simp [colCells] at hu; subst hu; simp [Addr.add]
  | 1, hu => simp [colCells] at hu; subst hu; simp [Addr.add]
  | 2, hu => simp [colCells] at hu; subst hu; simp [Addr.add]
  | 3, hu => simp [colCells] at hu; subst hu; simp [Addr.add]
  | j + 4, hu => simp [colCells] at hu
theorem col_one (c : Col) : ∀ u ∈ colCells c, u.oneCell' = true := by
  intro u hu
  simp [colCells] at hu
  rcases hu with rfl | rfl | rfl | rfl <;> rfl

theorem mirror_any (first at_ : Int) (wide size : Nat) (w : World) (h1 : 0 ≤ first) (h2 : first ≤ 100) (h3 : 0 ≤ at_) (h4 : at_ ≤ 100000) (hw : wide ≤ 8) (hs : size ≤ 4) :
    Calls Tryz.prog 129 #[.int .i64 first, .int .i64 wide, .int .i64 at_, .int .i64 size] w fun e w' => ∃ v, e = .returned v ∧
      w'.ownsRow w.heap.size 193 4 v (mirror first at_ wide size).length (colsCells (mirror first at_ wide size)) ∧ Below w.heap.size w w' := by
  obtain ⟨i0, hi, hz0, hz1, hz2⟩ := info_parts Tryz.infoCol
  go_enter Tryz.func129, Tryz.ntmps129
  go_wp2
  go_loopw [9, 13] (fun v t wr => ∃ d : Nat, d ≤ wide ∧ t = .int .i64 d ∧ wr.ownsRow w.heap.size 193 4 v (mirTo first at_ size d 0).length (colsCells (mirTo first at_ size d 0)) ∧ Below w.heap.size w wr)
    (fun _ t _ => wide - (RowKit.intOf t).toNat)
  case atStart => exact ⟨0, Nat.zero_le _, rfl, World.ownsRow_nil _ _ _ _, Below.refl _ _⟩
  case round =>
    obtain ⟨d, hd, rfl, hown, hb⟩ := hrel
    obtain ⟨wo, rfl⟩ : ∃ wo : World, wo = wr := ⟨_, rfl⟩
    by_cases hlt : d < wide
    · go_wp2
      go_loopw [9, 17] (fun v t wr => ∃ i : Nat, i ≤ size ∧ t = .int .i64 i ∧ wr.ownsRow w.heap.size 193 4 v (mirTo first at_ size d i).length (colsCells (mirTo first at_ size d i)) ∧ Below w.heap.size w wr)
        (fun _ t _ => size - (RowKit.intOf t).toNat)
      case atStart => exact ⟨0, Nat.zero_le _, rfl, hown, hb⟩
      case round =>
        obtain ⟨i, hi', rfl, hown1, hb1⟩ := hrel
        clear hown hb
        by_cases hlt2 : i < size
        · have hlen := Lib.hid (mirTo_len first at_ size d i)
          have hlb : (mirTo first at_ size d i).length ≤ 64 := by
            rw [hlen.out]
            have : d * size ≤ 8 * 4 := Nat.mul_le_mul (by omega) (by omega)
            omega
          go_wp2_with (at_builtin; refine wpList_append_own _ rfl _ _ 157 rfl w.heap.size 193 i0 _ 4 32 Tryz.underlying157 hi hz0 hz1 hz2 rfl (by decide) _ _ _ rfl (hown1.alloc _) ⟨wr.heap.size, 0, none⟩ 1 1 (colCells (mcol first at_ d i)) rfl rfl ?c1 (col_one _) (by unfold maxLen; omega) (by omega) ?c5 ?_)
          case c1 => exact col_new _ _ _
          case c5 => have := hb1.size; simp; omega
          intro v' w1 hown' hgrow _
          rw [← colsCells_snoc, ← mirTo_step, show (mirTo first at_ size d i).length + 1 = (mirTo first at_ size d (i + 1)).length from by rw [mirTo_len, mirTo_len]; omega] at hown'
          have hb2 : Below w.heap.size w w1 := (hb1.alloc hb1.size _).grown hgrow (by have := hb1.size; simp; omega) (fun k hk => (hown1.lt k hk).1)
          clear hown1 hgrow
          go_wp2
          go_roundw
          case rel => exact ⟨i + 1, by omega, by go_num, hown', hb2⟩
          case measure => simp [RowKit.intOf]; omega
        · obtain rfl : i = size := by omega
          rw [← mirTo_row] at hown1
          go_wp2
          go_roundw
          case rel => exact ⟨d + 1, by omega, by go_num, hown1, hb1⟩
          case measure => simp [RowKit.intOf]; omega
    · obtain rfl : d = wide := by omega
      go_wp2
      go_ret
      exact ⟨_, rfl, hown, hb⟩
end Go.Proofs.YtlpbbjjibnbooaaGreatDoor

namespace Go.Proofs.YtlpbbjjibnbooaaGreatDoor
open Go.RowKit

def pcol (first wide at_ : Int) (k : Nat) (par : Bool) (row : Int) : Col := (first + (at_ + k) % wide, 16 + (at_ + k) / wide, par, row)

/-- Block b is one cell that holds v. -/
def Box (w : World) (b : Nat) (t : TypeId) (v : Value) : Prop := w.heap[b]? = some (.cells #[v] t (0, 0))
theorem Box.lt {w : World} {b : Nat} {t : TypeId} {v : Value} (h : Box w b t v) : b < w.heap.size := lt_of_block h
theorem Box.cell {w : World} {b : Nat} {t : TypeId} {v : Value} (h : Box w b t v) : w.cell? ⟨b, 0, none⟩ = some v := cell_of_one h
theorem Box.free {w : World} {b : Nat} {t : TypeId} {v : Value} (h : Box w b t v) : w.frozen? ⟨b, 0, none⟩ = false := free_of_one h
theorem Box.below {w w' : World} {b B : Nat} {t : TypeId} {v : Value} (h : Box w b t v) (hb : Below B w w') (hB : b < B) : Box w' b t v := (hb.block b hB).trans h

set_option maxHeartbeats 1600000 in
theorem parity1_any (base n Bat Bout Bf Bw : Nat) (first wide at_ row : Int) (par : Bool) (v : Value) (L : List Col) (w : World) (hbase : base ≤ w.heap.size)
    (_hBat : Bat < base) (hBout : Bout < base) (_hBf : Bf < base) (_hBw : Bw < base)
    (h1 : 0 ≤ first) (h2 : first ≤ 100) (h3 : 0 ≤ at_) (h4 : at_ ≤ 100000) (hw1 : 1 ≤ wide) (hw : wide ≤ 8) (hn : n ≤ 100) (hL : L.length = n)
    (bat : Box w Bat 3 (.int .i64 at_)) (bout : Box w Bout 157 v) (bf : Box w Bf 3 (.int .i64 first)) (bw : Box w Bw 3 (.int .i64 wide))
    (hown : w.ownsRow base 193 4 v n (colsCells L)) :
    Calls Tryz.prog 143 #[.int .i64 row, .bool par, .pointer (some ⟨Bat, 0, none⟩), .pointer (some ⟨Bout, 0, none⟩), .pointer (some ⟨Bf, 0, none⟩), .pointer (some ⟨Bw, 0, none⟩)] w fun e w' =>
      e = .returned (.tuple #[]) ∧ ∃ v' w1, w' = w1.setCell ⟨Bout, 0, none⟩ v' ∧ Below base w w1 ∧ w1.ownsRow base 193 4 v' (n + 1) (colsCells (L ++ [pcol first wide at_ n par row])) := by
  obtain ⟨i0, hi, hz0, hz1, hz2⟩ := info_parts Tryz.infoCol
  obtain ⟨ao, cp, rfl⟩ := own_slice hown
  have c1 := bat.cell
  have c2 := bout.cell
  have c3 := bf.cell
  have c4 := bw.cell
  have f2 := bout.free
  have l1 := bat.lt
  have l2 := bout.lt
  have l3 := bf.lt
  have l4 := bw.lt
  go_enter Tryz.func143, Tryz.ntmps143
  go_wp2_with fail
  have r1 : 0 ≤ (at_ + n) % wide := Int.emod_nonneg _ (by omega)
  have r2 : (at_ + n) % wide < wide := Int.emod_lt_of_pos _ (by omega)
  have q1 : 0 ≤ (at_ + n) / wide := Int.ediv_nonneg (by omega) (by omega)
  have q2 : (at_ + n) / wide ≤ at_ + n := Int.ediv_le_self _ (by omega)
  have e0 : ¬ wide = 0 := by omega
  have e1 : (at_ + n).tmod wide = (at_ + n) % wide := Int.tmod_eq_emod_of_nonneg (by omega)
  have e4 : (at_ + n).tdiv wide = (at_ + n) / wide := Int.tdiv_eq_ediv_of_nonneg (by omega)
  have e2 : IntKind.i64.wrap ((at_ + n) % wide) = (at_ + n) % wide := by rw [IntKind.wrap_i64]; omega
  have e5 : IntKind.i64.wrap ((at_ + n) / wide) = (at_ + n) / wide := by rw [IntKind.wrap_i64]; omega
  have e3 : IntKind.i64.wrap (first + (at_ + n) % wide) = first + (at_ + n) % wide := by rw [IntKind.wrap_i64]; omega
  have e6 : IntKind.i64.wrap (16 + (at_ + n) / wide) = 16 + (at_ + n) / wide := by rw [IntKind.wrap_i64]; omega
  have F1 := Lib.hid hbase
  have F2 := Lib.hid hBout
  have F3 := Lib.hid hn
  have F4 : Hid ((at_ + n).tmod wide = (at_ + n) % wide) := e1
  clear r1 r2 q1 q2 hbase _hBat hBout _hBf _hBw h1 h2 h3 h4 hw1 hw hn hL bat bf bw bout F4
  go_region_law (first | (refine step_append_lies _ rfl (.tmp 13) (.tmp 26) 157 rfl base 193 i0 _ 4 32 Tryz.underlying157 hi hz0 hz1 hz2 rfl (by decide) _ _ _ rfl (hown.alloc _) ⟨w.heap.size, 0, none⟩ 1 1 (colCells (pcol first wide at_ n par row)) rfl rfl (col_new _ _ _) (col_one _) (by decide) (by have := F3.out; unfold maxLen; omega) (by have := F3.out; omega) (by have := F1.out; simp; omega) _ rfl ?_; intro g cap w1 hown' hgrow hat hlt; have hbw : Below base w w1 := (((Below.refl base w).drew).alloc F1.out _).grown hgrow (by have := F1.out; simp; omega) (fun k hk => (hown.lt k hk).1); have g2 := (hbw.cell (p := ⟨Bout, 0, none⟩) F2.out).trans c2; have gf := (hbw.frozen (p := ⟨Bout, 0, none⟩) F2.out).trans f2; clear hown hgrow hat hlt))
  all_goals go_wp2
  all_goals go_end0
  all_goals exact ⟨rfl, _, w1, rfl, hbw, by rw [colsCells_snoc]; exact hown'⟩
end Go.Proofs.YtlpbbjjibnbooaaGreatDoor

namespace Go.Proofs.YtlpbbjjibnbooaaGreatDoor
open Go.RowKit
set_option linter.unusedVariables false

theorem Box.new {w : World} {k : Nat} {t : TypeId} {v : Value} (hk : k = w.heap.size) : Box (w.alloc (.cells #[v] t)) k t v := by subst hk; exact heap_alloc_new w _
theorem Box.alloc {w : World} {k : Nat} {t : TypeId} {v : Value} (h : Box w k t v) (o : Obj) : Box (w.alloc o) k t v := (Below.heap_alloc w o k h.lt).trans h

def ParSt (w0 w : World) (H : Nat) (first wide at_ : Int) (L : List Col) (v : Value) : Prop :=
  Box w H 3 (.int .i64 first) ∧ Box w (H + 1) 3 (.int .i64 wide) ∧ Box w (H + 2) 3 (.int .i64 at_) ∧ Box w (H + 3) 157 v ∧
    w.ownsRow (H + 4) 193 4 v L.length (colsCells L) ∧ Below H w0 w ∧ H + 4 ≤ w.heap.size

theorem ParSt.add {w0 w : World} {H : Nat} {first wide at_ row : Int} {L : List Col} {v : Value} (h : ParSt w0 w H first wide at_ L v) (par : Bool)
    (h1 : 0 ≤ first) (h2 : first ≤ 100) (h3 : 0 ≤ at_) (h4 : at_ ≤ 100000) (hw1 : 1 ≤ wide) (hw : wide ≤ 8) (hn : L.length ≤ 100) :
    Calls Tryz.prog 143 #[.int .i64 row, .bool par, .pointer (some ⟨H + 2, 0, none⟩), .pointer (some ⟨H + 3, 0, none⟩), .pointer (some ⟨H, 0, none⟩), .pointer (some ⟨H + 1, 0, none⟩)] w fun e w' =>
      e = .returned (.tuple #[]) ∧ ∃ v', ParSt w0 w' H first wide at_ (L ++ [pcol first wide at_ L.length par row]) v' := by
  obtain ⟨b0, b1, b2, b3, hown, hb, hsz⟩ := h
  refine (parity1_any (H + 4) L.length (H + 2) (H + 3) H (H + 1) first wide at_ row par v L w hsz (by omega) (by omega) (by omega) (by omega) h1 h2 h3 h4 hw1 hw hn rfl b2 b3 b0 b1 hown).mono ?_
  rintro e w' ⟨rfl, v', w1, rfl, hb1, hown'⟩
  refine ⟨rfl, v', ?_, ?_, ?_, ?_, ?_, ?_, ?_⟩
  · exact (Below.heap_setCell _ _ _ _ (by simp)).trans (b0.below hb1 (by omega))
  · exact (Below.heap_setCell _ _ _ _ (by simp)).trans (b1.below hb1 (by omega))
  · exact (Below.heap_setCell _ _ _ _ (by simp)).trans (b2.below hb1 (by omega))
  · exact one_setCell (b3.below hb1 (by omega))
  · rw [List.length_append]
    exact ownsRow_setCell_below hown' (by simp) _
  · exact (hb.trans (hb1.mono (by omega))).setCell (by simp) _
  · have := hb1.size
    simp [World.setCell]; omega

/-- The columns of a parity, the first k sectors of a block. -/
def parTo (first wide at_ : Int) : Nat → List Col
  | 0 => []
  | k + 1 =>
    (if (k : Int) % (wide - 1) == 0 then parTo first wide at_ k ++ [pcol first wide at_ (parTo first wide at_ k).length true ((k : Int) / (wide - 1))] else parTo first wide at_ k) ++
      [pcol first wide at_ (if (k : Int) % (wide - 1) == 0 then parTo first wide at_ k ++ [pcol first wide at_ (parTo first wide at_ k).length true ((k : Int) / (wide - 1))] else parTo first wide at_ k).length false ((k : Int) / (wide - 1))]

theorem parTo_len (first wide at_ : Int) (k : Nat) : (parTo first wide at_ k).length ≤ 2 * k := by
  induction k with
  | zero => simp [parTo]
  | succ k ih =>
    rw [parTo]
    split <;> simp <;> omega

theorem parity_any (first wide at_ : Int) (size : Nat) (w : World) (h1 : 0 ≤ first) (h2 : first ≤ 100) (h3 : 0 ≤ at_) (h4 : at_ ≤ 100000) (hw1 : 3 ≤ wide) (hw : wide ≤ 8) (hs : size ≤ 4) :
    Calls Tryz.prog 130 #[.int .i64 first, .int .i64 wide, .int .i64 at_, .int .i64 size] w fun e w' => ∃ v, e = .returned v ∧
      w'.ownsRow w.heap.size 193 4 v (parTo first wide at_ size).length (colsCells (parTo first wide at_ size)) ∧ Below w.heap.size w w' := by
  go_enter Tryz.func130, Tryz.ntmps130
  go_wp2
  go_loopw [15] (fun t wr => ∃ (k : Nat) (v : Value), k ≤ size ∧ t = .int .i64 k ∧ ParSt w wr w.heap.size first wide at_ (parTo first wide at_ k) v) (fun t _ => size - (RowKit.intOf t).toNat)
  case atStart =>
    refine ⟨0, .slice none 0 0, Nat.zero_le _, rfl, ?_, ?_, ?_, ?_, World.ownsRow_nil _ _ _ _, ?_, ?_⟩
    · exact (((Box.new rfl).alloc _).alloc _).alloc _
    · exact ((Box.new (by simp)).alloc _).alloc _
    · exact (Box.new (by simp)).alloc _
    · exact Box.new (by simp)
    · exact ((((Below.refl _ _).alloc (Nat.le_refl _) _).alloc (by simp) _).alloc (by simp; omega) _).alloc (by simp; omega) _
    · simp
  case round =>
    obtain ⟨k, v, hk, rfl, hst⟩ := hrel
    have c1 := hst.2.1.cell
    have c2 := hst.2.2.2.1.cell
    have hd1 : 0 ≤ (k : Int) / (wide - 1) := Int.ediv_nonneg (by omega) (by omega)
    have hd2 : (k : Int) / (wide - 1) ≤ k := Int.ediv_le_self _ (by omega)
    have hlen := parTo_len first wide at_ k
    by_cases hlt : k < size
    · by_cases hz : ((k : Int) % (wide - 1) == 0) = true
      · have hP : Hid (parTo first wide at_ (k + 1) = (parTo first wide at_ k ++ [pcol first wide at_ (parTo first wide at_ k).length true ((k : Int) / (wide - 1))]) ++
            [pcol first wide at_ (parTo first wide at_ k ++ [pcol first wide at_ (parTo first wide at_ k).length true ((k : Int) / (wide - 1))]).length false ((k : Int) / (wide - 1))]) := by
          unfold Hid; rw [parTo, if_pos hz]
        have HS := Lib.hid hst
        clear hst
        go_wp2_with fail
        refine (HS.out.add (row := (k : Int) / (wide - 1)) true h1 h2 h3 h4 (by omega) hw (by omega)).mono ?_
        rintro e w1 ⟨rfl, v1, hst1⟩
        have HS1 := Lib.hid hst1
        clear hst1
        go_wp2_with fail
        refine (HS1.out.add (row := (k : Int) / (wide - 1)) false h1 h2 h3 h4 (by omega) hw (by simp; omega)).mono ?_
        rintro e w2 ⟨rfl, v2, hst2⟩
        have HS2 := Lib.hid hst2
        clear hst2
        go_wp2_with fail
        go_roundw
        case rel => exact ⟨k + 1, v2, by omega, by go_num, by rw [hP.out]; exact HS2.out⟩
        case measure => simp [RowKit.intOf]; omega
      · have hz' : ((k : Int) % (wide - 1) == 0) = false := by simpa using hz
        clear hz
        have hP : Hid (parTo first wide at_ (k + 1) = parTo first wide at_ k ++ [pcol first wide at_ (parTo first wide at_ k).length false ((k : Int) / (wide - 1))]) := by
          unfold Hid; rw [parTo, if_neg (by simpa using hz')]
        have HS := Lib.hid hst
        clear hst
        go_wp2_with fail
        refine (HS.out.add (row := (k : Int) / (wide - 1)) false h1 h2 h3 h4 (by omega) hw (by omega)).mono ?_
        rintro e w1 ⟨rfl, v1, hst1⟩
        have HS1 := Lib.hid hst1
        clear hst1
        go_wp2_with fail
        go_roundw
        case rel => exact ⟨k + 1, v1, by omega, by go_num, by rw [hP.out]; exact HS1.out⟩
        case measure => simp [RowKit.intOf]; omega
    · obtain rfl : k = size := by omega
      have HS := Lib.hid hst
      have c3 := hst.2.2.2.1.cell
      clear hst
      go_wp2_with fail
      go_ret
      obtain ⟨_, _, _, _, hown, hb, _⟩ := HS.out
      refine ⟨_, rfl, ?_, hb⟩
      exact ⟨hown.1, by
        rcases hown.2 with h | ⟨g, cap, cur, h1, h2, h3⟩
        · exact .inl h
        · exact .inr ⟨g, cap, cur, h1, by omega, h3⟩⟩

/-- The columns of a block. -/
def colsOf (gs : List (Int × Int)) (secs pg pa size : Int) : List Col :=
  if (grAt gs pg).1 == 0 then mirror (gFirst gs secs pg) pa (grAt gs pg).2.toNat size.toNat else parTo (gFirst gs secs pg) (grAt gs pg).2 pa size.toNat

end Go.Proofs.YtlpbbjjibnbooaaGreatDoor
