/-
  Contracts of polderref05: whether a measure is right, what a block takes.
-/
import Derived.Test.YtnagcmfecggllaaDoorGeom2
import Derived.Test.YtnagcmfecggllaaDoorCls
namespace Go.Proofs.YtnagcmfecggllaaDoor
set_option linter.unusedVariables false
set_option linter.unusedSimpArgs false
open Go.RowKit

theorem gOne_false {x : Int × Int} (h : gOne x = false) : (x.1 ≠ 0 ∧ x.1 ≠ 1) ∨ (x.1 = 0 ∧ (x.2 < 1 ∨ 8 < x.2)) ∨ (x.1 = 1 ∧ (x.2 < 3 ∨ 8 < x.2)) := by
  have : ¬ ((x.1 = 0 ∧ 1 ≤ x.2 ∧ x.2 ≤ 8) ∨ (x.1 = 1 ∧ 3 ≤ x.2 ∧ x.2 ≤ 8)) := by
    intro h'
    have : gOne x = true := by simpa [gOne] using h'
    rw [h] at this; cases this
  omega

set_option maxHeartbeats 4000000 in
theorem refRight_any (A : Option Addr) (n c : Nat) (gs : List (Int × Int)) (secs : Int) (w : World) (hg : GeoAt w A n gs) :
    Calls Tryd.prog 44 #[.agg #[.slice A n c, .int .i64 secs]] w fun e w' => e = .returned (.bool (gRight gs secs)) ∧ Below w.heap.size w w' := by
  obtain ⟨hl, hn2, hg⟩ := hg
  have hb0 : ∀ o, Below w.heap.size w (w.alloc o) := fun o => (Below.refl _ _).alloc (Nat.le_refl _) o
  by_cases hn : n = 0
  · subst hn
    have hgr : Hid (gRight gs secs = false) := by simp [Hid, gRight, hl]
    clear hg hl
    go_enter Tryd.func44, Tryd.ntmps44
    go_wp2
    go_ret
    exact ⟨ret_bool hgr.out.symm, hb0 _⟩
  · obtain ⟨b, off, rfl, hgs⟩ := hg (by omega)
    clear hg
    by_cases hbad : 4 < n ∨ secs < 24 ∨ 4096 < secs
    · have hgr : Hid (gRight gs secs = false) := by unfold Hid gRight; rw [hl]; simp; omega
      have hn1 : (1 : Int) ≤ n := by omega
      clear hgs hl
      go_enter Tryd.func44, Tryd.ntmps44
      go_wp2
      all_goals go_ret
      all_goals exact ⟨ret_bool (by rw [hgr.out]), hb0 _⟩
    · have hgr : Hid (gRight gs secs = gs.all gOne) := by
        unfold Hid gRight; rw [hl, decide_eq_true (by omega), decide_eq_true (by omega), decide_eq_true (by omega), decide_eq_true (by omega)]
        rfl
      have h1 : (1 : Int) ≤ n := by omega
      have h2 : (n : Int) ≤ 4 := by omega
      have h3 : 24 ≤ secs := by omega
      have h4 : secs ≤ 4096 := by omega
      have Hl := Lib.hid hl
      have hgl := hgs.1
      clear hbad hl
      go_enter Tryd.func44, Tryd.ntmps44
      go_wp2
      have hb1 := hb0 (Obj.cells #[Value.slice (some ⟨b, off, none⟩) n c, Value.int IntKind.i64 secs] 39)
      have k1 : (w.alloc (Obj.cells #[Value.slice (some ⟨b, off, none⟩) n c, Value.int IntKind.i64 secs] 39)).cell? ⟨w.heap.size, 0, none⟩ = some (.slice (some ⟨b, off, none⟩) n c) := cell_new rfl rfl
      have hs1 : w.heap.size < (w.alloc (Obj.cells #[Value.slice (some ⟨b, off, none⟩) n c, Value.int IntKind.i64 secs] 39)).heap.size := by simp
      generalize w.alloc (Obj.cells #[Value.slice (some ⟨b, off, none⟩) n c, Value.int IntKind.i64 secs] 39) = w1 at *
      go_loopw [3] (fun t wr => ∃ k : Nat, k ≤ n ∧ t = .int .i64 k ∧ (∀ j x, j < k → gs[j]? = some x → gOne x = true) ∧ Below w1.heap.size w1 wr) (fun t _ => n - (intOf t).toNat)
      case atStart => exact ⟨0, Nat.zero_le _, rfl, fun j x h => absurd h (by omega), Below.refl _ _⟩
      case round =>
        obtain ⟨k, hk, rfl, hno, hb⟩ := hrel
        obtain ⟨wo, rfl⟩ : ∃ wo : World, wo = wr := ⟨_, rfl⟩
        have HN := Lib.hid hno
        clear hno
        have k2 := keep_cell hb k1 hs1
        have hbb := hb1.trans (hb.mono hb1.size)
        by_cases hlt : k < n
        · obtain ⟨x, hx⟩ : ∃ x, gs[k]? = some x := ⟨_, List.getElem?_eq_getElem (by rw [Hl.out]; exact hlt)⟩
          obtain ⟨z1, z2⟩ := (hgs.below hbb (Nat.le_refl _)).2 k x hx
          have HX := Lib.hid hx
          have hi0 : (0 : Int) ≤ k := by omega
          have hi1 : (k : Int) < n := by omega
          clear hx
          cases ho : gOne x with
          | true =>
            have HO := Lib.hid ho
            rcases gOne_true ho with ⟨e, g1, g2⟩ | ⟨e, g1, g2⟩
            all_goals
              obtain ⟨kd, wd⟩ := x
              simp only at e g1 g2 z1 z2
              subst e
              clear ho
              go_wp2_with fail
              go_roundw
              case rel =>
                refine ⟨k + 1, by omega, by go_num, fun j y hj hy => ?_, hb.alloc hb.size _⟩
                rcases Nat.lt_or_ge j k with h | h
                · exact HN.out j y h hy
                · obtain rfl : j = k := by omega
                  rw [HX.out] at hy
                  injection hy with hy
                  rw [← hy]; exact HO.out
              case measure => simp [intOf]; omega
          | false =>
            have hf : Hid (gs.all gOne = false) := by
              unfold Hid; rw [List.all_eq_false]; exact ⟨x, List.mem_of_getElem? HX.out, by rw [ho]; simp⟩
            have hz := gOne_false ho
            obtain ⟨kd, wd⟩ := x
            simp only at hz z1 z2
            clear ho HX
            rcases hz with ⟨e1, e2⟩ | ⟨e, e1⟩ | ⟨e, e1⟩
            · have q1 : (kd != 0) = true := by simpa using e1
              have q2 : (kd != 1) = true := by simpa using e2
              clear e1 e2
              go_wp2_with fail
              all_goals go_ret
              all_goals exact ⟨ret_bool (by rw [hgr.out, hf.out]), hbb.alloc hbb.size _⟩
            · subst e
              rcases e1 with e1 | e1
              all_goals
                go_wp2_with fail
                all_goals go_ret
                all_goals exact ⟨ret_bool (by rw [hgr.out, hf.out]), hbb.alloc hbb.size _⟩
            · subst e
              rcases e1 with e1 | e1
              all_goals
                go_wp2_with fail
                all_goals go_ret
                all_goals exact ⟨ret_bool (by rw [hgr.out, hf.out]), hbb.alloc hbb.size _⟩
        · obtain rfl : k = n := by omega
          go_wp2_with fail
          go_ret
          refine ⟨ret_bool ?_, hbb⟩
          symm
          rw [hgr.out, List.all_eq_true]
          intro x hx
          obtain ⟨j, hj⟩ := List.mem_iff_getElem?.1 hx
          exact HN.out j x (by have := (List.getElem?_eq_some_iff.1 hj).1; rw [Hl.out] at this; exact this) hj
/-- What the reference says a block takes of a group. -/
theorem refTakes_any (x : Int × Int) (size : Int) (w : World) (ho : gOne x = true) (h1 : 1 ≤ size) (h2 : size ≤ 4) :
    Calls Tryd.prog 31 #[.agg #[.int .i64 x.1, .int .i64 x.2], .int .i64 size] w fun e w' => e = .returned (.int .i64 (gTake1 x size)) ∧ Below w.heap.size w w' := by
  obtain ⟨kd, wd⟩ := x
  rcases gOne_true ho with ⟨e, g1, g2⟩ | ⟨e, g1, g2⟩
  · simp only at e g1 g2
    subst e
    have ht : Hid (gTake1 (0, wd) size = size) := Lib.hid rfl
    clear ho
    go_enter Tryd.func31, Tryd.ntmps31
    go_wp2_with fail
    go_ret
    exact ⟨ret_int ht.out.symm, (Below.refl _ _).alloc (Nat.le_refl _) _⟩
  · simp only at e g1 g2
    subst e
    obtain ⟨s, rfl⟩ := Int.eq_ofNat_of_zero_le (show 0 ≤ size by omega)
    have ht : Hid (gTake1 (1, wd) s = (s + (s + wd - 2) / (wd - 1)) + (s + (s + wd - 2) / (wd - 1)) % 2) := Lib.hid rfl
    have hd : Hid ((s + wd - 2) / (wd - 1) = if (s : Int) ≤ wd - 1 then 1 else 2) := by
      unfold Hid
      have hw : wd = 3 ∨ wd = 4 ∨ wd = 5 ∨ wd = 6 ∨ wd = 7 ∨ wd = 8 := by omega
      rcases hw with rfl | rfl | rfl | rfl | rfl | rfl <;> split <;> omega
    clear ho
    go_enter Tryd.func31, Tryd.ntmps31
    go_wp2_with fail
    go_loopw [5, 6] (fun n l wr => ∃ j : Nat, j ≤ 2 ∧ n = .int .i64 ((s : Int) + j) ∧ l = .int .i64 ((s : Int) - j * (wd - 1)) ∧ (0 < j → ((j : Int) - 1) * (wd - 1) < s) ∧ Below w.heap.size w wr ∧ wr.cell? ⟨w.heap.size, 1, none⟩ = some (.int .i64 wd))
      (fun _ l _ => (intOf l).toNat)
    case atStart => exact ⟨0, by omega, by simp, by simp, fun h => absurd h (by omega), (Below.refl _ _).alloc (Nat.le_refl _) _, cell_new rfl rfl⟩
    case round =>
      obtain ⟨j, hj, rfl, rfl, hpos, hb, hc⟩ := hrel
      have hj3 : j = 0 ∨ j = 1 ∨ j = 2 := by omega
      rcases hj3 with rfl | rfl | rfl
      · have q1 : (0 : Int) < (s : Int) - 0 * (wd - 1) := by omega
        go_wp2_with fail
        go_roundw
        case rel => exact ⟨1, by omega, by congr 1, by congr 1; omega, fun _ => by omega, hb, hc⟩
        case measure => simp [intOf]; omega
      · by_cases q : (s : Int) ≤ wd - 1
        · rw [if_pos q] at hd
          have hpar : ((s : Int) + 1) % 2 = 0 ∨ ((s : Int) + 1) % 2 = 1 := by omega
          rcases hpar with hpar | hpar
          all_goals
            go_wp2_with fail
            go_ret
            refine ⟨ret_int ?_, hb⟩
            rw [ht.out, hd.out]; omega
        · go_wp2_with fail
          go_roundw
          case rel => exact ⟨2, by omega, by congr 1, by congr 1; omega, fun _ => by omega, hb, hc⟩
          case measure => simp [intOf]; omega
      · have q : ¬ (s : Int) ≤ wd - 1 := by have := hpos (by omega); omega
        rw [if_neg q] at hd
        have hpar : ((s : Int) + 2) % 2 = 0 ∨ ((s : Int) + 2) % 2 = 1 := by omega
        rcases hpar with hpar | hpar
        all_goals
          go_wp2_with fail
          go_ret
          refine ⟨ret_int ?_, hb⟩
          rw [ht.out, hd.out]; omega
end Go.Proofs.YtnagcmfecggllaaDoor
