/-
  Contracts of package geom, second part: Sectors, Devs, First.
-/
import Derived.Test.YtkmmehhddagijaaGeom
namespace Go.Proofs.Ytkmmehhddagijaa
open Go.RowKit
set_option linter.unusedVariables false

def gSectors (gs : List (Int × Int)) (secs g : Int) : Int := if gHas gs secs g then (if (grAt gs g).1 == 1 then (secs - 16) * (grAt gs g).2 else secs - 16) else 0
def gSum (gs : List (Int × Int)) : Int := (gs.map (·.2)).sum
def gDevs (gs : List (Int × Int)) (secs : Int) : Int := if gRight gs secs then gSum gs else 0
def gFirst (gs : List (Int × Int)) (secs g : Int) : Int := if gHas gs secs g then gSum (gs.take g.toNat) else 0

theorem mul_bd {a b : Int} (h1 : 0 ≤ a) (h2 : a ≤ 4096) (h3 : 1 ≤ b) (h4 : b ≤ 8) : 0 ≤ a * b ∧ a * b ≤ 32768 := by
  have : b = 1 ∨ b = 2 ∨ b = 3 ∨ b = 4 ∨ b = 5 ∨ b = 6 ∨ b = 7 ∨ b = 8 := by omega
  rcases this with rfl | rfl | rfl | rfl | rfl | rfl | rfl | rfl <;> omega

theorem sectors_any (A : Option Addr) (n c : Nat) (gs : List (Int × Int)) (secs g : Int) (w : World) (hg : GeoAt w A n gs) :
    Calls Try.prog 29 #[.agg #[.slice A n c, .int .i64 secs], .int .i64 g] w fun e w' => e = .returned (.int .i64 (gSectors gs secs g)) ∧ Below w.heap.size w w' := by
  have hb0 : Below w.heap.size w (w.alloc (Obj.cells #[Value.slice A n c, Value.int IntKind.i64 secs] 41)) := (Below.refl _ _).alloc (Nat.le_refl _) _
  have H := Lib.hid (has_any A n c gs secs g (w.alloc (Obj.cells #[Value.slice A n c, Value.int IntKind.i64 secs] 41)) (hg.below hb0 (Nat.le_refl _)))
  by_cases hh : gHas gs secs g = true
  · obtain ⟨k, x, rfl, hk, hl4, hs1, hs2, hx, hgx, ho⟩ := gHas_true hh
    have ho' := gOne_true ho
    obtain ⟨b, off, rfl, hgs⟩ := hg.2.2 (by have := hg.1; omega)
    have hl := hg.1
    have hkn : (k : Int) < n := by omega
    have HX := Lib.hid hx
    have HH := Lib.hid hh
    have ht : Hid (gSectors gs secs k = if x.1 == 1 then (secs - 16) * x.2 else secs - 16) := by unfold Hid gSectors; rw [hh, hgx]; rfl
    clear hx hgx hh hl hg
    obtain ⟨kd, wd⟩ := x
    have hm := mul_bd (a := secs - 16) (b := wd) (by omega) (by omega)
    rcases ho' with ⟨e, hw1, hw2⟩ | ⟨e, hw1, hw2⟩
    all_goals
      simp only at e hw1 hw2
      subst e
      have hm1 := (hm (by omega) hw2).1
      have hm2 := (hm (by omega) hw2).2
      clear hm
      go_enter Try.func29, Try.ntmps29
      go_wp2_with fail
      refine H.out.mono ?_
      rintro e w1 ⟨rfl, hb1⟩
      have hb2 := hb0.trans (hb1.mono (by simp))
      obtain ⟨hc1, hc2⟩ := (hgs.below hb2 (Nat.le_refl _)).2 k _ HX.out
      obtain ⟨hc, hf⟩ := bcell hb1
      have hh := HH.out
      have hsz := hb1.size
      simp at hsz
      go_wp2
      go_ret
      refine ⟨ret_int ?_, hb2.alloc (by omega) _⟩
      rw [ht.out]
      simp
  · have hh' : gHas gs secs g = false := by simpa using hh
    have ht : Hid (gSectors gs secs g = 0) := by unfold Hid gSectors; rw [hh']; rfl
    clear hg hh
    have HH := Lib.hid hh'
    clear hh'
    go_enter Try.func29, Try.ntmps29
    go_wp2_with fail
    refine H.out.mono ?_
    rintro e w1 ⟨rfl, hb1⟩
    have hb2 := hb0.trans (hb1.mono (by simp))
    obtain ⟨hc, hf⟩ := bcell hb1
    have hh := HH.out
    go_wp2
    go_ret
    exact ⟨ret_int ht.out.symm, hb2⟩

theorem gSum_take {gs : List (Int × Int)} {k : Nat} {x : Int × Int} (hx : gs[k]? = some x) : gSum (gs.take (k + 1)) = gSum (gs.take k) + x.2 := by
  obtain ⟨hk, e⟩ := List.getElem?_eq_some_iff.1 hx
  rw [List.take_succ_eq_append_getElem hk, e]
  simp [gSum, List.sum_append]
theorem gSum_bd {gs : List (Int × Int)} (h : ∀ x ∈ gs, 0 ≤ x.2 ∧ x.2 ≤ 8) : 0 ≤ gSum gs ∧ gSum gs ≤ 8 * gs.length := by
  induction gs with
  | nil => simp [gSum]
  | cons x gs ih =>
    have h1 := h x (by simp)
    have h2 := ih fun y hy => h y (by simp [hy])
    simp only [gSum, List.map_cons, List.sum_cons, List.length_cons] at h2 ⊢
    omega
theorem gRight_parts {gs : List (Int × Int)} {secs : Int} (h : gRight gs secs = true) : 1 ≤ gs.length ∧ gs.length ≤ 4 ∧ 24 ≤ secs ∧ secs ≤ 4096 ∧ ∀ x ∈ gs, gOne x = true := by
  simp only [gRight, Bool.and_eq_true, decide_eq_true_eq, List.all_eq_true] at h
  exact ⟨h.1.1.1.1, h.1.1.1.2, h.1.1.2, h.1.2, h.2⟩

theorem sum_take_bd {gs : List (Int × Int)} {secs : Int} (h : gRight gs secs = true) (k : Nat) : 0 ≤ gSum (gs.take k) ∧ gSum (gs.take k) ≤ 32 := by
  obtain ⟨_, h2, _, _, h5⟩ := gRight_parts h
  have := gSum_bd (gs := gs.take k) fun x hx => by have := gOne_true (h5 x (List.mem_of_mem_take hx)); omega
  have hl := List.length_take_le k gs
  have hl2 : (gs.take k).length ≤ gs.length := by rw [List.length_take]; omega
  omega

theorem first_any (A : Option Addr) (n c : Nat) (gs : List (Int × Int)) (secs g : Int) (w : World) (hg : GeoAt w A n gs) :
    Calls Try.prog 19 #[.agg #[.slice A n c, .int .i64 secs], .int .i64 g] w fun e w' => e = .returned (.int .i64 (gFirst gs secs g)) ∧ Below w.heap.size w w' := by
  have hb0 : Below w.heap.size w (w.alloc (Obj.cells #[Value.slice A n c, Value.int IntKind.i64 secs] 41)) := (Below.refl _ _).alloc (Nat.le_refl _) _
  have H := Lib.hid (has_any A n c gs secs g (w.alloc (Obj.cells #[Value.slice A n c, Value.int IntKind.i64 secs] 41)) (hg.below hb0 (Nat.le_refl _)))
  by_cases hh : gHas gs secs g = true
  · obtain ⟨kg, x, rfl, hk, hl4, hs1, hs2, hx, hgx, ho⟩ := gHas_true hh
    obtain ⟨b, off, rfl, hgs⟩ := hg.2.2 (by have := hg.1; omega)
    have hl := Lib.hid hg.1
    have hkn : kg < n := by have := hl.out; omega
    have hn2 := hg.2.1
    have hr : gRight gs secs = true := by simp only [gHas, Bool.and_eq_true] at hh; exact hh.1.1
    have ht : Hid (gFirst gs secs kg = gSum (gs.take kg)) := by unfold Hid gFirst; rw [hh]; simp
    have HH := Lib.hid hh
    have HB := Lib.hid (sum_take_bd hr)
    clear hh hg hr hx hgx ho
    go_enter Try.func19, Try.ntmps19
    go_wp2_with fail
    refine H.out.mono ?_
    rintro e w1 ⟨rfl, hb1⟩
    have hb2 := hb0.trans (hb1.mono (by simp))
    obtain ⟨hc, hf⟩ := bcell hb1
    have hcA : w1.cell? ⟨w.heap.size, 0, none⟩ = some (.slice (some ⟨b, off, none⟩) n c) := by rw [hc _ _ (by simp)]; simp
    have hsz : w.heap.size < w1.heap.size := by have := hb1.size; simp at this; omega
    have hh := HH.out
    go_wp2
    go_loopw [5, 12] (fun s t wr => ∃ k : Nat, k ≤ kg ∧ t = .int .i64 k ∧ s = .int .i64 (gSum (gs.take k)) ∧ Below w1.heap.size w1 wr) (fun _ t _ => kg - (intOf t).toNat)
    case atStart => exact ⟨0, Nat.zero_le _, rfl, rfl, Below.refl _ _⟩
    case round =>
      obtain ⟨k, hk, rfl, rfl, hb⟩ := hrel
      clear hc hf
      by_cases hlt : k < kg
      · obtain ⟨x, hx⟩ : ∃ x, gs[k]? = some x := ⟨_, List.getElem?_eq_getElem (by have := hl.out; omega)⟩
        obtain ⟨hc1, hc2⟩ := (hgs.below (hb2.trans (hb.mono (by omega))) (Nat.le_refl _)).2 k x hx
        have hcB := (hb.cell (p := ⟨w.heap.size, 0, none⟩) hsz).trans hcA
        have hs := Lib.hid (gSum_take hx)
        have hB1 := HB.out k
        have hB2 := HB.out (k + 1)
        rw [hs.out] at hB2
        clear hx
        go_wp2
        go_roundw
        case rel => exact ⟨k + 1, by omega, by go_num, by rw [hs.out], hb⟩
        case measure => simp [intOf]; omega
      · go_wp2
        go_ret
        obtain rfl : k = kg := by omega
        exact ⟨ret_int ht.out.symm, hb2.trans (hb.mono (by omega))⟩
  · have hh' : gHas gs secs g = false := by simpa using hh
    have ht : Hid (gFirst gs secs g = 0) := by unfold Hid gFirst; rw [hh']; rfl
    clear hg hh
    have HH := Lib.hid hh'
    clear hh'
    go_enter Try.func19, Try.ntmps19
    go_wp2_with fail
    refine H.out.mono ?_
    rintro e w1 ⟨rfl, hb1⟩
    have hb2 := hb0.trans (hb1.mono (by simp))
    obtain ⟨hc, hf⟩ := bcell hb1
    have hh := HH.out
    go_wp2
    go_ret
    exact ⟨ret_int ht.out.symm, hb2⟩
end Go.Proofs.Ytkmmehhddagijaa
