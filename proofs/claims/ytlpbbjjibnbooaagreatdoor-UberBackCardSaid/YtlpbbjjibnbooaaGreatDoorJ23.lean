/-
  A byte of an uberblock spoilt is told: plain law.
  Contracts of polderref05: whether a measure is right, what a block takes.
  Contracts of polderref06: First, May.
  The contract of polderref09.Right.
-/
import Derived.Test.YtlpbbjjibnbooaaGreatDoorJ22
import Derived.Test.YtlpbbjjibnbooaaGreatDoorJ03
import Derived.Test.YtlpbbjjibnbooaaGreatDoorJ01
import Derived.Test.YtlpbbjjibnbooaaGreatDoorJ04
import Derived.Test.YtlpbbjjibnbooaaGreatDoorJ06
import Derived.Test.YtlpbbjjibnbooaaGreatDoorJ05
namespace Go.Proofs.YtlpbbjjibnbooaaGreatDoor
set_option linter.unusedVariables false
set_option linter.unusedSimpArgs false
open Go.RowKit

theorem fold_one : ∀ (l : List Nat) (x : Nat × Nat × Nat × Nat), (l.foldl fstep x).1 % M64 = (x.1 + l.sum) % M64
  | [], x => by simp
  | w :: l, x => by
    rw [List.foldl_cons, fold_one l, List.sum_cons]
    show ((x.1 + w) % M64 + l.sum) % M64 = _
    rw [Nat.mod_add_mod, Nat.add_assoc]
theorem fsum_one (s : List UInt8) : (fsum s).1 = (wordsL s).sum % M64 := by
  have h := fold_one (wordsL s) (0, 0, 0, 0)
  have hl : (fsum s).1 < M64 := (fsum_lt s).1
  rw [Nat.zero_add] at h
  rw [← h]
  exact (Nat.mod_eq_of_lt hl).symm
theorem words_224 {s : List UInt8} (hs : s.length = 224) : wordsL s = (List.range 56).map fun k => subN s (4 * k) 4 := by
  have hp : padL s 4 = s := by
    unfold padL
    rw [if_pos (by decide), hs]
    rw [show padN 224 (4 : Int).toNat = 0 by decide]
    simp
  unfold wordsL wordsP
  rw [hp, hs]
  exact List.map_congr_left fun k hk => rdN_sub (by have := List.mem_range.1 hk; omega)
theorem sum_same (f g : Nat → Nat) : ∀ n, (∀ k, k < n → f k = g k) → ((List.range n).map f).sum = ((List.range n).map g).sum := fun n h => by
  rw [List.map_congr_left fun k hk => h k (List.mem_range.1 hk)]
theorem sum_diff (f g : Nat → Nat) (k0 : Nat) (h : ∀ k, k ≠ k0 → f k = g k) : ∀ n, k0 < n → ((List.range n).map f).sum + g k0 = ((List.range n).map g).sum + f k0
  | n + 1, hn => by
    rw [List.range_succ, List.map_append, List.map_append, List.sum_append, List.sum_append]
    simp only [List.map_cons, List.map_nil, List.sum_cons, List.sum_nil, Nat.add_zero]
    by_cases e : k0 = n
    · subst e
      rw [sum_same f g k0 fun k hk => h k (by omega)]
      omega
    · have := sum_diff f g k0 h n (by omega)
      rw [h n (fun e' => e e'.symm)]
      omega
theorem sum_bound (f : Nat → Nat) (B : Nat) (h : ∀ k, f k < B) : ∀ n, ((List.range n).map f).sum ≤ n * B
  | 0 => by simp
  | n + 1 => by
    rw [List.range_succ, List.map_append, List.sum_append]
    simp only [List.map_cons, List.map_nil, List.sum_cons, List.sum_nil, Nat.add_zero]
    have h1 := sum_bound f B h n
    have h2 := h n
    rw [Nat.succ_mul]
    omega
theorem sub_set_ne {s : List UInt8} {i k : Nat} {x : UInt8} (h : i < 4 * k ∨ 4 * k + 4 ≤ i) : subN (s.set i x) (4 * k) 4 = subN s (4 * k) 4 := by
  unfold subN
  congr 1
  apply List.ext_getElem?
  intro j
  by_cases hj : j < 4
  · rw [List.getElem?_take_of_lt hj, List.getElem?_take_of_lt hj, List.getElem?_drop, List.getElem?_drop, List.getElem?_set, if_neg (by omega)]
  · rw [List.getElem?_eq_none (by rw [List.length_take]; omega), List.getElem?_eq_none (by rw [List.length_take]; omega)]
theorem sub_set_eq {s : List UInt8} {i : Nat} {x y : UInt8} (hi : i < s.length) (hl : 4 * (i / 4) + 4 ≤ s.length) (hy : s[i]? = some y) (hx : x ≠ y) : subN (s.set i x) (4 * (i / 4)) 4 ≠ subN s (4 * (i / 4)) 4 := by
  intro e
  have h1 := sub_lay (s.set i x) (4 * (i / 4)) 4 (by rw [List.length_set]; exact hl)
  have h2 := sub_lay s (4 * (i / 4)) 4 hl
  rw [e, h2] at h1
  have h3 := congrArg (fun l => l[i % 4]?) h1
  rw [List.getElem?_take_of_lt (by omega), List.getElem?_take_of_lt (by omega), List.getElem?_drop, List.getElem?_drop, show 4 * (i / 4) + i % 4 = i by omega, List.getElem?_set, if_pos rfl, if_pos hi, hy] at h3
  exact hx (Option.some.inj h3).symm
theorem fsum_flip {s : List UInt8} {i : Nat} {x y : UInt8} (hs : s.length = 224) (hi : i < 224) (hy : s[i]? = some y) (hx : x ≠ y) : (fsum (s.set i x)).1 ≠ (fsum s).1 := by
  rw [fsum_one, fsum_one, words_224 hs, words_224 (by rw [List.length_set]; exact hs)]
  have hd := sum_diff (fun k => subN (s.set i x) (4 * k) 4) (fun k => subN s (4 * k) 4) (i / 4) (fun k hk => sub_set_ne (by omega)) 56 (by omega)
  have hne := sub_set_eq (s := s) (i := i) (x := x) (by omega) (by omega) hy hx
  have b1 := sum_bound (fun k => subN (s.set i x) (4 * k) 4) (256 ^ 4) (fun k => subN_lt _ _ _) 56
  have b2 := sum_bound (fun k => subN s (4 * k) 4) (256 ^ 4) (fun k => subN_lt _ _ _) 56
  unfold M64
  rw [Nat.mod_eq_of_lt (by omega), Nat.mod_eq_of_lt (by omega)]
  omega
theorem sum4_inj {x y : Nat × Nat × Nat × Nat} (h1 : x.1 < 18446744073709551616) (h2 : y.1 < 18446744073709551616) (h : sum4 x = sum4 y) : x.1 = y.1 := by
  have k1 : (sum4 x).drop 0 = layL x.1 8 ++ _ := sum4_eq x
  have k2 : (sum4 y).drop 0 = layL y.1 8 ++ _ := sum4_eq y
  have m1 := subN_of k1 rfl (by omega)
  have m2 := subN_of k2 rfl (by omega)
  rw [← m1, ← m2, h]
/-- A byte that is another one: the sum tells. -/
theorem ur_flip {gs : List (Int × Int)} {secs t n : Int} {p : PtrD} (h : nodeOk n p = true) (op : p.Ok) {i : Nat} {x y : UInt8} (hi : i < 256) (hy : (ubL gs secs t n p)[i]? = some y) (hx : x ≠ y) : urD gs secs ((ubL gs secs t n p).set i x) = (ubZ, 4) := by
  obtain ⟨c1, c2⟩ := ub_cut (gs := gs) (secs := secs) (t := t) h op
  have hHl := ubH_len (gs := gs) (secs := secs) (t := t) h op
  have hl := ubL_len (gs := gs) (secs := secs) (t := t) h op
  obtain ⟨L, hL⟩ : ∃ L, ubL gs secs t n p = L := ⟨_, rfl⟩
  obtain ⟨Hd, hHd⟩ : ∃ Hd, ubH gs secs t n p = Hd := ⟨_, rfl⟩
  rw [hL] at hy hl c1 c2 ⊢
  rw [hHd] at c1 c2 hHl
  have hsl : (L.set i x).length = 256 := by rw [List.length_set]; exact hl
  unfold urD
  rw [if_neg (by omega), if_neg (by omega), if_pos]
  by_cases hlt : i < 224
  · have e1 : (L.set i x).take 224 = Hd.set i x := by rw [List.take_set, c1]
    have e2 : (L.set i x).drop 224 = sum4 (fsum Hd) := by rw [List.drop_set_of_lt hlt, c2]
    rw [e1, e2]
    intro e
    have hy2 : Hd[i]? = some y := by rw [← c1, List.getElem?_take_of_lt hlt]; exact hy
    exact fsum_flip hHl hlt hy2 hx (sum4_inj (fsum_lt _).1 (fsum_lt _).1 e).symm
  · have e1 : (L.set i x).take 224 = Hd := by rw [List.take_set_of_le (by omega), c1]
    rw [e1, ← c2]
    intro e
    have h3 := congrArg (fun l => l[i - 224]?) e
    rw [List.getElem?_drop, List.getElem?_drop, show 224 + (i - 224) = i by omega, List.getElem?_set, if_pos rfl, if_pos (by omega), hy] at h3
    exact hx (Option.some.inj h3)
end Go.Proofs.YtlpbbjjibnbooaaGreatDoor

namespace Go.Proofs.YtlpbbjjibnbooaaGreatDoor
set_option linter.unusedVariables false
set_option linter.unusedSimpArgs false
open Go.RowKit

theorem gOne_false {x : Int × Int} (h : gOne x = false) : (x.1 ≠ 0 ∧ x.1 ≠ 1) ∨ (x.1 = 0 ∧ (x.2 < 1 ∨ 8 < x.2)) ∨ (x.1 = 1 ∧ (x.2 < 3 ∨ 8 < x.2)) := by
  have : ¬ ((x.1 = 0 ∧ 1 ≤ x.2 ∧ x.2 ≤ 8) ∨ (x.1 = 1 ∧ 3 ≤ x.2 ∧ x.2 ≤ 8)) := by
    intro h'
    have : gOne x = true := by simpa [gOne] using h'
    rw [h] at this; cases this
  omega

set_option maxHeartbeats 4000000 in
theorem refRight_any (A : Option Addr) (n c : Nat) (gs : List (Int × Int)) (secs : Int) (w : World) (hg : GeoAt w A n gs) :
    Calls Tryz.prog 47 #[.agg #[.slice A n c, .int .i64 secs]] w fun e w' => e = .returned (.bool (gRight gs secs)) ∧ Below w.heap.size w w' := by
  obtain ⟨hl, hn2, hg⟩ := hg
  have hb0 : ∀ o, Below w.heap.size w (w.alloc o) := fun o => (Below.refl _ _).alloc (Nat.le_refl _) o
  by_cases hn : n = 0
  · subst hn
    have hgr : Hid (gRight gs secs = false) := by simp [Hid, gRight, hl]
    clear hg hl
    go_enter Tryz.func47, Tryz.ntmps47
    go_wp2
    go_ret
    exact ⟨ret_bool hgr.out.symm, hb0 _⟩
  · obtain ⟨b, off, rfl, hgs⟩ := hg (by omega)
    clear hg
    by_cases hbad : 4 < n ∨ secs < 24 ∨ 4096 < secs
    · have hgr : Hid (gRight gs secs = false) := by unfold Hid gRight; rw [hl]; simp; omega
      have hn1 : (1 : Int) ≤ n := by omega
      clear hgs hl
      go_enter Tryz.func47, Tryz.ntmps47
      go_wp2
      all_goals go_ret
      all_goals exact ⟨ret_bool (by rw [hgr.out]), hb0 _⟩
    · have hgr : Hid (gRight gs secs = gs.all gOne) := by
        unfold Hid gRight; rw [hl, decide_eq_true (by omega), decide_eq_true (by omega), decide_eq_true (by omega), decide_eq_true (by omega)]
        rfl
      have h1 : (1 : Int) ≤ n := by omega
      have h2 : (n : Int) ≤ 4 := by omega
      have h3 : 24 ≤ secs := by omega
      have h4 : secs ≤ 4096 := by omega
      have Hl := Lib.hid hl
      have hgl := hgs.1
      clear hbad hl
      go_enter Tryz.func47, Tryz.ntmps47
      go_wp2
      have hb1 := hb0 (Obj.cells #[Value.slice (some ⟨b, off, none⟩) n c, Value.int IntKind.i64 secs] 24)
      have k1 : (w.alloc (Obj.cells #[Value.slice (some ⟨b, off, none⟩) n c, Value.int IntKind.i64 secs] 24)).cell? ⟨w.heap.size, 0, none⟩ = some (.slice (some ⟨b, off, none⟩) n c) := cell_new rfl rfl
      have hs1 : w.heap.size < (w.alloc (Obj.cells #[Value.slice (some ⟨b, off, none⟩) n c, Value.int IntKind.i64 secs] 24)).heap.size := by simp
      generalize w.alloc (Obj.cells #[Value.slice (some ⟨b, off, none⟩) n c, Value.int IntKind.i64 secs] 24) = w1 at *
      go_loopw [3] (fun t wr => ∃ k : Nat, k ≤ n ∧ t = .int .i64 k ∧ (∀ j x, j < k → gs[j]? = some x → gOne x = true) ∧ Below w1.heap.size w1 wr) (fun t _ => n - (RowKit.intOf t).toNat)
      case atStart => exact ⟨0, Nat.zero_le _, rfl, fun j x h => absurd h (by omega), Below.refl _ _⟩
      case round =>
        obtain ⟨k, hk, rfl, hno, hb⟩ := hrel
        obtain ⟨wo, rfl⟩ : ∃ wo : World, wo = wr := ⟨_, rfl⟩
        have HN := Lib.hid hno
        clear hno
        have k2 := keep_cell hb k1 hs1
        have hbb := hb1.trans (hb.mono hb1.size)
        by_cases hlt : k < n
        · obtain ⟨x, hx⟩ : ∃ x, gs[k]? = some x := ⟨_, List.getElem?_eq_getElem (by rw [Hl.out]; exact hlt)⟩
          obtain ⟨z1, z2⟩ := (hgs.below hbb (Nat.le_refl _)).2 k x hx
          have HX := Lib.hid hx
          have hi0 : (0 : Int) ≤ k := by omega
          have hi1 : (k : Int) < n := by omega
          clear hx
          cases ho : gOne x with
          | true =>
            have HO := Lib.hid ho
            rcases gOne_true ho with ⟨e, g1, g2⟩ | ⟨e, g1, g2⟩
            all_goals
              obtain ⟨kd, wd⟩ := x
              simp only at e g1 g2 z1 z2
              subst e
              clear ho
              go_wp2_with fail
              go_roundw
              case rel =>
                refine ⟨k + 1, by omega, by go_num, fun j y hj hy => ?_, hb.alloc hb.size _⟩
                rcases Nat.lt_or_ge j k with h | h
                · exact HN.out j y h hy
                · obtain rfl : j = k := by omega
                  rw [HX.out] at hy
                  injection hy with hy
                  rw [← hy]; exact HO.out
              case measure => simp [RowKit.intOf]; omega
          | false =>
            have hf : Hid (gs.all gOne = false) := by
              unfold Hid; rw [List.all_eq_false]; exact ⟨x, List.mem_of_getElem? HX.out, by rw [ho]; simp⟩
            have hz := gOne_false ho
            obtain ⟨kd, wd⟩ := x
            simp only at hz z1 z2
            clear ho HX
            rcases hz with ⟨e1, e2⟩ | ⟨e, e1⟩ | ⟨e, e1⟩
            · have q1 : (kd != 0) = true := by simpa using e1
              have q2 : (kd != 1) = true := by simpa using e2
              clear e1 e2
              go_wp2_with fail
              all_goals go_ret
              all_goals exact ⟨ret_bool (by rw [hgr.out, hf.out]), hbb.alloc hbb.size _⟩
            · subst e
              rcases e1 with e1 | e1
              all_goals
                go_wp2_with fail
                all_goals go_ret
                all_goals exact ⟨ret_bool (by rw [hgr.out, hf.out]), hbb.alloc hbb.size _⟩
            · subst e
              rcases e1 with e1 | e1
              all_goals
                go_wp2_with fail
                all_goals go_ret
                all_goals exact ⟨ret_bool (by rw [hgr.out, hf.out]), hbb.alloc hbb.size _⟩
        · obtain rfl : k = n := by omega
          go_wp2_with fail
          go_ret
          refine ⟨ret_bool ?_, hbb⟩
          symm
          rw [hgr.out, List.all_eq_true]
          intro x hx
          obtain ⟨j, hj⟩ := List.mem_iff_getElem?.1 hx
          exact HN.out j x (by have := (List.getElem?_eq_some_iff.1 hj).1; rw [Hl.out] at this; exact this) hj
/-- What the reference says a block takes of a group. -/
theorem refTakes_any (x : Int × Int) (size : Int) (w : World) (ho : gOne x = true) (h1 : 1 ≤ size) (h2 : size ≤ 4) :
    Calls Tryz.prog 79 #[.agg #[.int .i64 x.1, .int .i64 x.2], .int .i64 size] w fun e w' => e = .returned (.int .i64 (gTake1 x size)) ∧ Below w.heap.size w w' := by
  obtain ⟨kd, wd⟩ := x
  rcases gOne_true ho with ⟨e, g1, g2⟩ | ⟨e, g1, g2⟩
  · simp only at e g1 g2
    subst e
    have ht : Hid (gTake1 (0, wd) size = size) := Lib.hid rfl
    clear ho
    go_enter Tryz.func79, Tryz.ntmps79
    go_wp2_with fail
    go_ret
    exact ⟨ret_int ht.out.symm, (Below.refl _ _).alloc (Nat.le_refl _) _⟩
  · simp only at e g1 g2
    subst e
    obtain ⟨s, rfl⟩ := Int.eq_ofNat_of_zero_le (show 0 ≤ size by omega)
    have ht : Hid (gTake1 (1, wd) s = (s + (s + wd - 2) / (wd - 1)) + (s + (s + wd - 2) / (wd - 1)) % 2) := Lib.hid rfl
    have hd : Hid ((s + wd - 2) / (wd - 1) = if (s : Int) ≤ wd - 1 then 1 else 2) := by
      unfold Hid
      have hw : wd = 3 ∨ wd = 4 ∨ wd = 5 ∨ wd = 6 ∨ wd = 7 ∨ wd = 8 := by omega
      rcases hw with rfl | rfl | rfl | rfl | rfl | rfl <;> split <;> omega
    clear ho
    go_enter Tryz.func79, Tryz.ntmps79
    go_wp2_with fail
    go_loopw [5, 6] (fun n l wr => ∃ j : Nat, j ≤ 2 ∧ n = .int .i64 ((s : Int) + j) ∧ l = .int .i64 ((s : Int) - j * (wd - 1)) ∧ (0 < j → ((j : Int) - 1) * (wd - 1) < s) ∧ Below w.heap.size w wr ∧ wr.cell? ⟨w.heap.size, 1, none⟩ = some (.int .i64 wd))
      (fun _ l _ => (RowKit.intOf l).toNat)
    case atStart => exact ⟨0, by omega, by simp, by simp, fun h => absurd h (by omega), (Below.refl _ _).alloc (Nat.le_refl _) _, cell_new rfl rfl⟩
    case round =>
      obtain ⟨j, hj, rfl, rfl, hpos, hb, hc⟩ := hrel
      have hj3 : j = 0 ∨ j = 1 ∨ j = 2 := by omega
      rcases hj3 with rfl | rfl | rfl
      · have q1 : (0 : Int) < (s : Int) - 0 * (wd - 1) := by omega
        go_wp2_with fail
        go_roundw
        case rel => exact ⟨1, by omega, by congr 1, by congr 1; omega, fun _ => by omega, hb, hc⟩
        case measure => simp [RowKit.intOf]; omega
      · by_cases q : (s : Int) ≤ wd - 1
        · rw [if_pos q] at hd
          have hpar : ((s : Int) + 1) % 2 = 0 ∨ ((s : Int) + 1) % 2 = 1 := by omega
          rcases hpar with hpar | hpar
          all_goals
            go_wp2_with fail
            go_ret
            refine ⟨ret_int ?_, hb⟩
            rw [ht.out, hd.out]; omega
        · go_wp2_with fail
          go_roundw
          case rel => exact ⟨2, by omega, by congr 1, by congr 1; omega, fun _ => by omega, hb, hc⟩
          case measure => simp [RowKit.intOf]; omega
      · have q : ¬ (s : Int) ≤ wd - 1 := by have := hpos (by omega); omega
        rw [if_neg q] at hd
        have hpar : ((s : Int) + 2) % 2 = 0 ∨ ((s : Int) + 2) % 2 = 1 := by omega
        rcases hpar with hpar | hpar
        all_goals
          go_wp2_with fail
          go_ret
          refine ⟨ret_int ?_, hb⟩
          rw [ht.out, hd.out]; omega
end Go.Proofs.YtlpbbjjibnbooaaGreatDoor

namespace Go.Proofs.YtlpbbjjibnbooaaGreatDoor
set_option linter.unusedVariables false
set_option linter.unusedSimpArgs false
open Go.RowKit

set_option maxHeartbeats 4000000 in
theorem refMay_any (A : Option Addr) (n c : Nat) (gs : List (Int × Int)) (secs pg pa size : Int) (w : World) (hg : GeoAt w A n gs) :
    Calls Tryz.prog 78 #[.agg #[.slice A n c, .int .i64 secs], .agg #[.int .i64 pg, .int .i64 pa], .int .i64 size] w fun e w' => e = .returned (.bool (cMay gs secs pg pa size)) ∧ Below w.heap.size w w' := by
  have hb0 : Below w.heap.size w ((w.alloc (Obj.cells #[Value.slice A n c, Value.int IntKind.i64 secs] 24)).alloc (Obj.cells #[Value.int IntKind.i64 pg, Value.int IntKind.i64 pa] 26)) :=
    ((Below.refl _ _).alloc (Nat.le_refl _) _).alloc (by simp) _
  have HR := Lib.hid (refRight_any A n c gs secs _ (hg.below hb0 (Nat.le_refl _)))
  by_cases hr : gRight gs secs = true
  · obtain ⟨hl1, hl4, hs1, hs2, hone⟩ := gRight_parts hr
    rw [hr] at HR
    have Hl := hg.1
    by_cases hv : 1 ≤ size ∧ size ≤ 4 ∧ 0 ≤ pg ∧ pg < n ∧ 0 ≤ pa ∧ pa ≤ 100000
    · obtain ⟨v1, v2, v3, v4, v5, v6⟩ := hv
      obtain ⟨k, rfl⟩ := Int.eq_ofNat_of_zero_le v3
      obtain ⟨x, hx⟩ : ∃ x, gs[k]? = some x := ⟨_, List.getElem?_eq_getElem (by omega)⟩
      have ho := hone x (List.mem_of_getElem? hx)
      have hhas : gHas gs secs k = true := by unfold gHas; rw [hr]; simp; omega
      have hgx : grAt gs k = x := by unfold grAt; rw [Int.toNat_natCast, List.getD_eq_getElem?_getD, hx]; rfl
      have hT : gTakes gs secs k size = gTake1 x size := by unfold gTakes; rw [hhas, decide_eq_true v1, decide_eq_true v2, hgx]; rfl
      have hTb := gTakes_bd gs secs k size
      rw [hT] at hTb
      have hS : gSectors gs secs k = if x.1 == 1 then (secs - 16) * x.2 else secs - 16 := by unfold gSectors; rw [hhas, hgx]; rfl
      have HT := Lib.hid fun W => refTakes_any x size W ho v1 v2
      have hT0 : 0 < gTake1 x size := by
        unfold gTake1
        rcases gOne_true ho with ⟨e, g1, g2⟩ | ⟨e, g1, g2⟩
        · rw [e]; simp; omega
        · rw [e]
          have := par_rows v1 v2 g1 g2
          simp only [show ((1 : Int) == 0) = false from rfl, Bool.false_eq_true, if_false]
          omega
      have hC : Hid (cMay gs secs k pa size = decide (pa + gTake1 x size ≤ if x.1 == 1 then (secs - 16) * x.2 else secs - 16)) := by
        unfold Hid cMay; rw [hT, hS, decide_eq_true hT0, decide_eq_true v5, Bool.true_and, Bool.true_and]
        congr 1
        rw [eq_iff_iff]
        constructor <;> intro h <;> omega
      obtain ⟨b, off, rfl, hgs⟩ := hg.2.2 (by omega)
      have HX := Lib.hid hx
      have ho' := gOne_true ho
      obtain ⟨kd, wd⟩ := x
      obtain ⟨tb1, tb2⟩ := hTb
      clear hr hx ho hone hhas hgx hT hS hg hT0
      generalize gTake1 (kd, wd) size = T at *
      go_enter Tryz.func78, Tryz.ntmps78
      go_wp2_with fail
      refine HR.out.mono ?_
      rintro e w1 ⟨rfl, hb1⟩
      have hb2 := hb0.trans (hb1.mono (by simp; omega))
      have k1 : w1.cell? ⟨w.heap.size, 0, none⟩ = some (.slice (some ⟨b, off, none⟩) n c) := keep_cell hb1 (cell_alloc (cell_new rfl rfl) _) (by simp; omega)
      have k2 : w1.cell? ⟨w.heap.size, 1, none⟩ = some (.int .i64 secs) := keep_cell hb1 (cell_alloc (cell_new rfl rfl) _) (by simp; omega)
      have k3 : w1.cell? ⟨w.heap.size + 1, 0, none⟩ = some (.int .i64 k) := keep_cell hb1 (cell_new (by simp) rfl) (by simp)
      have k4 : w1.cell? ⟨w.heap.size + 1, 1, none⟩ = some (.int .i64 pa) := keep_cell hb1 (cell_new (by simp) rfl) (by simp)
      obtain ⟨z1, z2⟩ := (hgs.below hb2 (Nat.le_refl _)).2 k _ HX.out
      have hsz : w.heap.size + 2 ≤ w1.heap.size := by have := hb1.size; simp at this; omega
      have a2 := fun X => cell_alloc k2 X
      have a4 := fun X => cell_alloc k4 X
      have a1 := fun X => cell_alloc k1 X
      have hb3 := fun X => hb2.alloc hb2.size X
      have HB3 := Lib.hid hb3
      clear hb1 hb0 hgs hb3
      rcases ho' with ⟨e, g1, g2⟩ | ⟨e, g1, g2⟩
      · subst e
        go_wp2_with fail
        have g0 := cell_new (W := w1) (k := w1.heap.size) (o := 0) (cs := #[.int .i64 0, .int .i64 wd]) (t := 71) rfl rfl
        have g3 := cell_new (W := w1) (k := w1.heap.size) (o := 1) (cs := #[.int .i64 0, .int .i64 wd]) (t := 71) rfl rfl
        have g4 := a4 (.cells #[.int .i64 0, .int .i64 wd] 71)
        have hb3 := HB3.out (.cells #[.int .i64 0, .int .i64 wd] 71)
        have hz : w1.heap.size < (w1.alloc (.cells #[.int .i64 0, .int .i64 wd] 71)).heap.size := by simp
        clear k1 k2 k3 k4 a1 a2 a4 z1 z2
        generalize w1.alloc (.cells #[.int .i64 0, .int .i64 wd] 71) = w2 at *
        obtain ⟨C, hCd, _, hCB, hCK, hCD⟩ := cls_below w2
        have f1 : ∀ W, C W → W.cell? ⟨w.heap.size + 1, 1, none⟩ = some (.int .i64 pa) := fun W h => keep_cell (hCB W h) g4 (by omega)
        have f2 : ∀ W, C W → W.cell? ⟨w1.heap.size, 0, none⟩ = some (.int .i64 0) := fun W h => keep_cell (hCB W h) g0 hz
        have f3 : ∀ W, C W → W.cell? ⟨w1.heap.size, 1, none⟩ = some (.int .i64 wd) := fun W h => keep_cell (hCB W h) g3 hz
        have wT : IntKind.i64.wrap (pa + T) = pa + T := by rw [IntKind.wrap_i64] <;> omega
        clear g0 g3 g4
        refine wp_region_cls C (by kernel_rfl) (by kernel_rfl) hCd ?_
        repeat (first
          | go_big_quiet_skip
          | (go_big_quiet_want
             go_big_quiet_op
             first
               | go_big_quiet_on
               | (apply Exists.intro
                  refine ⟨fun W hW => ?_, ?_⟩
                  · first
                      | exact rfl
                      | exact ⟨rfl, rfl⟩
                      | (have e0 := f1 W hW; have e1 := f2 W hW; have e2 := f3 W hW; simp only [e0, e1, e2, Result.andThen_ok]; done)
                      | (have e0 := f1 W hW; have e1 := f2 W hW; have e2 := f3 W hW; simp only [e0, e1, e2, Result.andThen_ok]; first | exact ⟨trivial, rfl⟩ | exact rfl | exact ⟨rfl, rfl⟩)
                      | (refine (HT.out W).mono ?_; rintro e w' ⟨rfl, hb⟩; exact ⟨rfl, hCK _ _ hW hb⟩)
                  go_big_quiet_on)))
        refine wpQuiet_nil ?_
        intro w' hw'
        have hwB := hCB w' hw'
        go_wp2_with fail
        go_ret
        exact ⟨ret_bool hC.out.symm, hb3.trans (hwB.mono hb3.size)⟩
      · subst e
        have hm := mul_bd (a := secs - 16) (b := wd) (by omega) (by omega) (by omega) g2
        go_wp2_with fail
        have g0 := cell_new (W := w1) (k := w1.heap.size) (o := 0) (cs := #[.int .i64 1, .int .i64 wd]) (t := 71) rfl rfl
        have g3 := cell_new (W := w1) (k := w1.heap.size) (o := 1) (cs := #[.int .i64 1, .int .i64 wd]) (t := 71) rfl rfl
        have g4 := a4 (.cells #[.int .i64 1, .int .i64 wd] 71)
        have hb3 := HB3.out (.cells #[.int .i64 1, .int .i64 wd] 71)
        have hz : w1.heap.size < (w1.alloc (.cells #[.int .i64 1, .int .i64 wd] 71)).heap.size := by simp
        clear k1 k2 k3 k4 a1 a2 a4 z1 z2
        generalize w1.alloc (.cells #[.int .i64 1, .int .i64 wd] 71) = w2 at *
        obtain ⟨C, hCd, _, hCB, hCK, hCD⟩ := cls_below w2
        have f1 : ∀ W, C W → W.cell? ⟨w.heap.size + 1, 1, none⟩ = some (.int .i64 pa) := fun W h => keep_cell (hCB W h) g4 (by omega)
        have f2 : ∀ W, C W → W.cell? ⟨w1.heap.size, 0, none⟩ = some (.int .i64 1) := fun W h => keep_cell (hCB W h) g0 hz
        have f3 : ∀ W, C W → W.cell? ⟨w1.heap.size, 1, none⟩ = some (.int .i64 wd) := fun W h => keep_cell (hCB W h) g3 hz
        have wT : IntKind.i64.wrap (pa + T) = pa + T := by rw [IntKind.wrap_i64] <;> omega
        clear g0 g3 g4
        refine wp_region_cls C (by kernel_rfl) (by kernel_rfl) hCd ?_
        repeat (first
          | go_big_quiet_skip
          | (go_big_quiet_want
             go_big_quiet_op
             first
               | go_big_quiet_on
               | (apply Exists.intro
                  refine ⟨fun W hW => ?_, ?_⟩
                  · first
                      | exact rfl
                      | exact ⟨rfl, rfl⟩
                      | (have e0 := f1 W hW; have e1 := f2 W hW; have e2 := f3 W hW; simp only [e0, e1, e2, Result.andThen_ok]; done)
                      | (have e0 := f1 W hW; have e1 := f2 W hW; have e2 := f3 W hW; simp only [e0, e1, e2, Result.andThen_ok]; first | exact ⟨trivial, rfl⟩ | exact rfl | exact ⟨rfl, rfl⟩)
                      | (refine (HT.out W).mono ?_; rintro e w' ⟨rfl, hb⟩; exact ⟨rfl, hCK _ _ hW hb⟩)
                  go_big_quiet_on)))
        refine wpQuiet_nil ?_
        intro w' hw'
        have hwB := hCB w' hw'
        go_wp2_with fail
        go_ret
        exact ⟨ret_bool hC.out.symm, hb3.trans (hwB.mono hb3.size)⟩
    · have hC : Hid (cMay gs secs pg pa size = false) := by
        unfold Hid
        rw [Bool.eq_false_iff]
        intro h
        have h' := cMay_true h
        have hS := gSectors_bd gs secs pg
        have hT := gTakes_bd gs secs pg size
        obtain ⟨q1, q2, q3, q4, q5, q6⟩ := h'
        obtain ⟨k', x, e, hk, _⟩ := gHas_true q1
        exact hv ⟨q2, q3, by omega, by omega, q4, by omega⟩
      clear hr hone hg
      go_enter Tryz.func78, Tryz.ntmps78
      go_wp2_with fail
      refine HR.out.mono ?_
      rintro e w1 ⟨rfl, hb1⟩
      have hb2 := hb0.trans (hb1.mono (by simp; omega))
      have k1 : w1.cell? ⟨w.heap.size, 0, none⟩ = some (.slice A n c) := keep_cell hb1 (cell_alloc (cell_new rfl rfl) _) (by simp; omega)
      have k2 : w1.cell? ⟨w.heap.size, 1, none⟩ = some (.int .i64 secs) := keep_cell hb1 (cell_alloc (cell_new rfl rfl) _) (by simp; omega)
      have k3 : w1.cell? ⟨w.heap.size + 1, 0, none⟩ = some (.int .i64 pg) := keep_cell hb1 (cell_new (by simp) rfl) (by simp)
      have k4 : w1.cell? ⟨w.heap.size + 1, 1, none⟩ = some (.int .i64 pa) := keep_cell hb1 (cell_new (by simp) rfl) (by simp)
      clear hb1 hb0
      go_wp2_with fail
      all_goals first | (exfalso; omega) | go_ret
      all_goals exact ⟨ret_bool hC.out.symm, hb2⟩
  · have hr' : gRight gs secs = false := by simpa using hr
    have hC : Hid (cMay gs secs pg pa size = false) := by
      unfold Hid
      rw [Bool.eq_false_iff]
      intro h
      have := (cMay_true h).1
      unfold gHas at this
      rw [hr'] at this
      simp at this
    rw [hr'] at HR
    clear hr hr' hg
    go_enter Tryz.func78, Tryz.ntmps78
    go_wp2_with fail
    refine HR.out.mono ?_
    rintro e w1 ⟨rfl, hb1⟩
    go_wp2_with fail
    go_ret
    exact ⟨ret_bool hC.out.symm, hb0.trans (hb1.mono (by simp; omega))⟩
end Go.Proofs.YtlpbbjjibnbooaaGreatDoor

namespace Go.Proofs.YtlpbbjjibnbooaaGreatDoor
set_option linter.unusedVariables false
set_option linter.unusedSimpArgs false
open Go.RowKit

theorem apB_same (gs : List (Int × Int)) (secs : Int) (p : PtrD) (T : Int) (h : p.ag = p.bg) (hT : gTakes gs secs p.ag p.size = T) : apB gs secs p.ag p.aa p.bg p.ba p.size = (decide (p.aa + T ≤ p.ba) || decide (p.ba + T ≤ p.aa)) := by
  unfold apB; rw [← h, hT]; simp

set_option maxRecDepth 100000 in
set_option maxHeartbeats 4000000 in
theorem refRight9_any (A : Option Addr) (n c : Nat) (gs : List (Int × Int)) (secs : Int) (p : PtrD) (w : World) (hg : GeoAt w A n gs) :
    Calls Tryz.prog 37 #[.agg #[.slice A n c, .int .i64 secs], .agg p.cells] w fun e w' => e = .returned (.bool (rightB gs secs p)) ∧ Below w.heap.size w w' := by
  obtain ⟨w0, hw0⟩ : ∃ w0, w0 = ((w.alloc (Obj.cells #[Value.slice A n c, Value.int IntKind.i64 secs] 24)).alloc (.cells #[.int .i64 p.ag, .int .i64 p.aa, .int .i64 p.bg, .int .i64 p.ba, .bool p.two, .int .i64 p.size, .int .i64 p.level, .int .i64 p.birth, .int .u64 p.s0, .int .u64 p.s1, .int .u64 p.s2, .int .u64 p.s3] 31)) := ⟨_, rfl⟩
  have hb0 : Below w.heap.size w w0 := by rw [hw0]; exact ((Below.refl _ _).alloc (Nat.le_refl _) _).alloc (by simp) _
  have HP : Hid (PtrAt w0 (w.heap.size + 1) 0 p) := by
    have := PtrAt.new (w.alloc (Obj.cells #[Value.slice A n c, Value.int IntKind.i64 secs] 24)) p 31
    rw [World.size_alloc] at this
    rw [hw0]; exact Lib.hid this
  have hs0 : w.heap.size + 2 ≤ w0.heap.size := by rw [hw0]; simp
  have k1 : w0.cell? ⟨w.heap.size, 0, none⟩ = some (.slice A n c) := by rw [hw0]; exact cell_alloc (cell_new rfl rfl) _
  have k2 : w0.cell? ⟨w.heap.size, 1, none⟩ = some (.int .i64 secs) := by rw [hw0]; exact cell_alloc (cell_new rfl rfl) _
  rw [show (Value.agg p.cells) = .agg #[.int .i64 p.ag, .int .i64 p.aa, .int .i64 p.bg, .int .i64 p.ba, .bool p.two, .int .i64 p.size, .int .i64 p.level, .int .i64 p.birth, .int .u64 p.s0, .int .u64 p.s1, .int .u64 p.s2, .int .u64 p.s3] from rfl]
  by_cases hgood : (0 ≤ p.level ∧ p.level ≤ 3) ∧ (1 ≤ p.birth ∧ p.birth ≤ 4294967295)
  · obtain ⟨⟨g1, g2⟩, g3, g4⟩ := hgood
    have HR : Hid (rightB gs secs p = (cMay gs secs p.ag p.aa p.size && (if p.two then cMay gs secs p.bg p.ba p.size && apB gs secs p.ag p.aa p.bg p.ba p.size else p.bg == 0 && p.ba == 0))) := by
      unfold Hid rightB; rw [decide_eq_true g1, decide_eq_true g2, decide_eq_true g3, decide_eq_true g4]; rfl
    have h := HP.out
    obtain ⟨h0, h1, h2, h3, h4, h5, h6, h7, h8, h9, ha, hc⟩ := h
    simp only [Nat.zero_add] at h1 h2 h3 h4 h5 h6 h7 h8 h9 ha hc
    go_enter Tryz.func37, Tryz.ntmps37
    go_wp2_with fail
    rw [← hw0]
    clear hw0
    refine (refMay_any A n c gs secs p.ag p.aa p.size _ (hg.below hb0 (Nat.le_refl _))).mono ?_
    rintro e w1 ⟨rfl, hb1⟩
    have hP1 := HP.out.keep hb1 (by omega)
    have hb2 := hb0.trans (hb1.mono hb0.size)
    have hs1 := keep_size hb1 hs0
    have l1 := keep_cell hb1 k1 (by omega)
    have l2 := keep_cell hb1 k2 (by omega)
    clear h0 h1 h2 h3 h4 h5 h6 h7 h8 h9 ha hc hb1 k1 k2
    by_cases hp : cMay gs secs p.ag p.aa p.size = true
    · have hct := cMay_true hp
      have hbd := cMay_bd hp
      rw [hp, Bool.true_and] at HR
      rw [hp]
      clear hp
      have HP1 := Lib.hid hP1
      obtain ⟨h0, h1, h2, h3, h4, h5, h6, h7, h8, h9, ha, hc⟩ := hP1
      simp only [Nat.zero_add] at h1 h2 h3 h4 h5 h6 h7 h8 h9 ha hc
      cases ht : p.two with
      | false =>
        rw [ht] at h4 HR
        rw [if_neg (by simp)] at HR
        have he := fun W => eql_place p.bg p.ba 0 0 W
        clear hct
        go_wp2_with fail
        go_ret
        exact ⟨ret_bool HR.out.symm, hb2⟩
      | true =>
        rw [ht] at h4 HR
        rw [if_pos rfl] at HR
        have HC := Lib.hid hct
        clear hct
        go_wp2_with fail
        refine (refMay_any A n c gs secs p.bg p.ba p.size _ (hg.below hb2 (Nat.le_refl _))).mono ?_
        rintro e w2 ⟨rfl, hb3⟩
        have hP2 := HP1.out.keep hb3 (by omega)
        have hb4 := hb2.trans (hb3.mono hb2.size)
        have hs2 := keep_size hb3 hs1
        have n1 := keep_cell hb3 l1 (by omega)
        have n2 := keep_cell hb3 l2 (by omega)
        clear h0 h1 h2 h3 h4 h5 h6 h7 h8 h9 ha hc hb3 l1 l2
        by_cases hq : cMay gs secs p.bg p.ba p.size = true
        · have hbq := cMay_bd hq
          rw [hq, Bool.true_and] at HR
          rw [hq]
          clear hq
          obtain ⟨hhas, hz1, hz2, hp1, hp2, hp3⟩ := HC.out
          obtain ⟨k, x, hk', hk, hl4, hs1', hs2', hx, hgx, ho⟩ := gHas_true hhas
          have hT : gTakes gs secs p.ag p.size = gTake1 x p.size := by unfold gTakes; rw [hhas, decide_eq_true hz1, decide_eq_true hz2, hk', hgx]; rfl
          have hTb := gTakes_bd gs secs p.ag p.size
          rw [hT] at hTb
          obtain ⟨b, off, rfl, hgs⟩ := hg.2.2 (by have := hg.1; omega)
          obtain ⟨y1, y2⟩ := (hgs.below hb4 (Nat.le_refl _)).2 k _ hx
          have hglt := (hgs.below hb4 (Nat.le_refl _)).1
          have hkn : (k : Int) < n := by have := hg.1; omega
          have hkn2 : k < n := by omega
          have HTK := Lib.hid fun W => refTakes_any x p.size W ho hz1 hz2
          have HAP : Hid (p.ag = p.bg → apB gs secs p.ag p.aa p.bg p.ba p.size = (decide (p.aa + gTake1 x p.size ≤ p.ba) || decide (p.ba + gTake1 x p.size ≤ p.aa))) := Lib.hid fun h => apB_same gs secs p _ h hT
          have HAN : Hid (p.ag ≠ p.bg → apB gs secs p.ag p.aa p.bg p.ba p.size = true) := Lib.hid fun h => by unfold apB; rw [show (p.ag != p.bg) = true by simpa using h]; rfl
          have HK := Lib.hid hk'
          have hk0 : (0 : Int) ≤ p.ag := by omega
          have hk1 : p.ag < n := by omega
          have hkt : p.ag.toNat = k := by omega
          clear hhas hx hgx hT hz1 hz2 hp1 hp2 hp3 HC hk' hgs
          obtain ⟨xa, xb⟩ := x
          simp only at y1 y2 HTK
          generalize gTake1 (xa, xb) p.size = T at *
          obtain ⟨C, hC, hC0, hCB, hCK, hCd⟩ := cls_below w2
          have hPC : ∀ W, C W → PtrAt W (w.heap.size + 1) 0 p := fun W h => hP2.keep (hCB W h) (by omega)
          have f0 : ∀ W, C W → W.cell? ⟨w.heap.size + 1, 0, none⟩ = some (.int .i64 p.ag) := fun W h => (hPC W h).1
          have f5 : ∀ W, C W → W.cell? ⟨w.heap.size + 1, 5, none⟩ = some (.int .i64 p.size) := fun W h => (hPC W h).2.2.2.2.2.1
          have fg : ∀ W, C W → W.cell? ⟨w.heap.size, 0, none⟩ = some (.slice (some ⟨b, off, none⟩) n c) := fun W h => keep_cell (hCB W h) n1 (by omega)
          have fx : ∀ W, C W → W.cell? ⟨b, off + k * 2, none⟩ = some (.int .i64 xa) := fun W h => keep_cell (hCB W h) y1 hglt
          have fy : ∀ W, C W → W.cell? ⟨b, off + k * 2 + 1, none⟩ = some (.int .i64 xb) := fun W h => keep_cell (hCB W h) y2 hglt
          clear n1 n2 y1 y2
          repeat' (first
            | go_values
            | go_skip
            | go_guarded
            | ((fail_if_success (with_reducible refine drawn_mark ?_))
               first
                 | go_step
                 | go_upon
                 | go_back
                 | (simp only [Int.not_lt, Int.not_le] at *; go_simp)
                 | (go_values <;> (try go_simp))
                 | (go_ite <;> go_prune <;> (try go_simp))
                 | (split <;> (first | (rename_i hx; exact (hx _ rfl).elim) | go_prune))))
          refine wp_region_cls C (by kernel_rfl) (by kernel_rfl) hC ?_
          repeat (first
            | go_big_quiet_skip
            | (go_big_quiet_want
               go_big_quiet_op
               first
                 | go_big_quiet_on
                 | (apply Exists.intro
                    refine ⟨fun W hW => ?_, ?_⟩
                    · first
                        | exact rfl
                        | exact ⟨rfl, rfl⟩
                        | (have e0 := f0 W hW; have e1 := f5 W hW; have e2 := fg W hW; have e3 := fx W hW; have e4 := fy W hW; simp only [e0, e1, e2, e3, e4, Result.andThen_ok]; done)
                        | (have e0 := f0 W hW; have e1 := f5 W hW; have e2 := fg W hW; have e3 := fx W hW; have e4 := fy W hW; simp only [e0, e1, e2, e3, e4, Result.andThen_ok]; first | exact ⟨trivial, rfl⟩ | exact rfl | exact ⟨rfl, rfl⟩)
                        | ((refine (HTK.out W).mono ?_; rintro e w' ⟨rfl, hb⟩; exact ⟨rfl, hCK _ _ hW hb⟩))
                    go_big_quiet_on)))
          refine wpQuiet_nil ?_
          intro w' hw'
          have hwB := hCB w' hw'
          have hP3 := hPC w' hw'
          clear f0 f5 fg fx fy hPC hCK hCd hCB hC hC0 HTK
          obtain ⟨h0, h1, h2, h3, h4, h5, h6, h7, h8, h9, ha, hc⟩ := hP3
          simp only [Nat.zero_add] at h1 h2 h3 h4 h5 h6 h7 h8 h9 ha hc
          by_cases hag : p.ag = p.bg
          · have hv := HAP.out hag
            have HV : Hid (rightB gs secs p = (decide (p.aa + T ≤ p.ba) || decide (p.ba + T ≤ p.aa))) := by unfold Hid; rw [HR.out, hv]
            have hqq : (p.ag == p.bg) = true := by simpa using hag
            clear hv hag hkt
            by_cases o1 : p.aa < p.ba + T
            · by_cases o2 : p.ba < p.aa + T
              · repeat' (first
                  | go_values
                  | go_skip
                  | go_guarded
                  | ((fail_if_success (with_reducible refine drawn_mark ?_))
                     first
                       | go_step
                       | go_upon
                       | go_back
                       | (simp only [Int.not_lt, Int.not_le] at *; go_simp)
                       | (go_values <;> (try go_simp))
                       | (go_ite <;> go_prune <;> (try go_simp))
                       | (split <;> (first | (rename_i hx; exact (hx _ rfl).elim) | go_prune))))
                all_goals go_ret
                all_goals (refine ⟨ret_bool ?_, keep_below hwB hb4⟩; rw [HV.out]; simp; omega)
              · repeat' (first
                  | go_values
                  | go_skip
                  | go_guarded
                  | ((fail_if_success (with_reducible refine drawn_mark ?_))
                     first
                       | go_step
                       | go_upon
                       | go_back
                       | (simp only [Int.not_lt, Int.not_le] at *; go_simp)
                       | (go_values <;> (try go_simp))
                       | (go_ite <;> go_prune <;> (try go_simp))
                       | (split <;> (first | (rename_i hx; exact (hx _ rfl).elim) | go_prune))))
                all_goals go_ret
                all_goals (refine ⟨ret_bool ?_, keep_below hwB hb4⟩; rw [HV.out]; simp; omega)
            · repeat' (first
                | go_values
                | go_skip
                | go_guarded
                | ((fail_if_success (with_reducible refine drawn_mark ?_))
                   first
                     | go_step
                     | go_upon
                     | go_back
                     | (simp only [Int.not_lt, Int.not_le] at *; go_simp)
                     | (go_values <;> (try go_simp))
                     | (go_ite <;> go_prune <;> (try go_simp))
                     | (split <;> (first | (rename_i hx; exact (hx _ rfl).elim) | go_prune))))
              all_goals go_ret
              all_goals (refine ⟨ret_bool ?_, keep_below hwB hb4⟩; rw [HV.out]; simp; omega)
          · have HV : Hid (rightB gs secs p = true) := by unfold Hid; rw [HR.out, HAN.out hag]
            have hqq : (p.ag == p.bg) = false := by simpa using hag
            clear hag hkt
            repeat' (first
              | go_values
              | go_skip
              | go_guarded
              | ((fail_if_success (with_reducible refine drawn_mark ?_))
                 first
                   | go_step
                   | go_upon
                   | go_back
                   | (simp only [Int.not_lt, Int.not_le] at *; go_simp)
                   | (go_values <;> (try go_simp))
                   | (go_ite <;> go_prune <;> (try go_simp))
                   | (split <;> (first | (rename_i hx; exact (hx _ rfl).elim) | go_prune))))
            all_goals go_ret
            all_goals exact ⟨ret_bool HV.out.symm, keep_below hwB hb4⟩
        · have hq' : cMay gs secs p.bg p.ba p.size = false := by simpa using hq
          rw [hq', Bool.false_and] at HR
          rw [hq']
          go_wp2_with fail
          go_ret
          exact ⟨ret_bool HR.out.symm, hb4⟩
    · have hp' : cMay gs secs p.ag p.aa p.size = false := by simpa using hp
      rw [hp', Bool.false_and] at HR
      rw [hp']
      go_wp2_with fail
      go_ret
      exact ⟨ret_bool HR.out.symm, hb2⟩
  · have HR : Hid (rightB gs secs p = false) := by
      unfold Hid
      cases hr : rightB gs secs p with
      | false => rfl
      | true =>
        simp only [rightB, Bool.and_eq_true, decide_eq_true_eq] at hr
        exact absurd ⟨⟨hr.1.1.1.1.1, hr.1.1.1.1.2⟩, hr.1.1.1.2, hr.1.1.2⟩ hgood
    have h := HP.out
    obtain ⟨h0, h1, h2, h3, h4, h5, h6, h7, h8, h9, ha, hc⟩ := h
    go_enter Tryz.func37, Tryz.ntmps37
    go_wp2_with fail
    all_goals first | (exfalso; omega) | (go_ret; exact ⟨ret_bool HR.out.symm, by rw [← hw0]; exact hb0⟩)
end Go.Proofs.YtlpbbjjibnbooaaGreatDoor
