/-
  The walk of LePlays.
-/
import Derived.Test.YtblmjaenoleaaaaDoorLeR3
import Derived.Test.YtblmjaenoleaaaaDoorLeLaws4
import Derived.Test.YtblmjaenoleaaaaDoorCls
namespace Go.Proofs.YtblmjaenoleaaaaDoor
open Go.RowKit
set_option linter.unusedVariables false

theorem numRef_any (m : List UInt8) (w : World) (hm : m.length ≤ 8) :
    Calls Tryd.prog 14 #[str m] w fun e w' => e = .returned (.int .u64 (leNat m : Nat)) ∧ w = w' := by
  have H0 : Hid (leNat (m.drop m.length) = 0) := by unfold Hid; rw [List.drop_length]; rfl
  go_enter Tryd.func14, Tryd.ntmps14
  go_wp2
  go_loop [3, 4] (fun x t => ∃ k : Nat, k ≤ m.length ∧ t = .int .i64 ((k : Int) - 1) ∧ x = .int .u64 (leNat (m.drop k) : Nat)) (fun _ t => (intOf t + 1).toNat)
  case atStart => exact ⟨m.length, Nat.le_refl _, rfl, by rw [H0.out]; rfl⟩
  case round =>
    obtain ⟨k, hk, rfl, rfl⟩ := hrel
    by_cases h0 : 0 < k
    · have hd : m.drop (k - 1) = m[k - 1] :: m.drop k := by
        have := List.drop_eq_getElem_cons (show k - 1 < m.length by omega)
        rw [show k - 1 + 1 = k by omega] at this
        exact this
      have hb := leNat_lt (m.drop (k - 1))
      have hp := pow256_le (show (m.drop (k - 1)).length ≤ 8 by rw [List.length_drop]; omega)
      have hb2 : leNat (m.drop (k - 1)) < 18446744073709551616 := Nat.lt_of_lt_of_le hb (Nat.le_trans hp (by decide))
      rw [hd, leNat] at hb2
      have HV : Hid (leNat (m.drop (k - 1)) = (m[k - 1]'(by omega)).toNat + 256 * leNat (m.drop k)) := by unfold Hid; rw [hd, leNat]
      have hx0 := (m[k - 1]'(by omega)).toNat_lt
      have hi0 : (0 : Int) ≤ (k : Int) - 1 := by omega
      have hi1 : (k : Int) - 1 < m.length := by omega
      have ht : ((k : Int) - 1).toNat = k - 1 := by omega
      clear hb hp hd
      generalize leNat (m.drop k) = v at *
      go_wp2_with fail
      go_round
      case rel =>
        refine ⟨k - 1, by omega, ?_, ?_⟩
        · congr 1; omega
        · have e1 : IntKind.u64.wrap (((ByteArray.mk m.toArray)[k - 1]'(by rw [ba_size]; omega)).toNat : Int) = ((m[k - 1]'(by omega)).toNat : Int) := by rw [ba_get]; exact IntWalk.u64_in _ (by omega)
          rw [HV.out, e1, IntWalk.u64_in _ (by omega)]; congr 1; omega
      case measure => simp [intOf]; omega
    · obtain rfl : k = 0 := by omega
      go_wp2_with fail
      go_ret
      exact ⟨rfl, rfl⟩
/-- A slice of acts: what is done, and a number. -/
def ActsAt (w : World) (A : Option Addr) (n : Nat) (L : List (Nat × Int)) : Prop :=
  L.length = n ∧ n ≤ 9223372036854775807 ∧ (∀ x ∈ L, x.1 ≤ 255 ∧ -9223372036854775808 ≤ x.2 ∧ x.2 ≤ 9223372036854775807) ∧ (0 < n → ∃ b off, A = some ⟨b, off, none⟩ ∧ b < w.heap.size ∧
    ∀ i x, L[i]? = some x → w.cell? ⟨b, off + i * 2, none⟩ = some (.int .u8 x.1) ∧ w.cell? ⟨b, off + i * 2 + 1, none⟩ = some (.int .i64 x.2))
theorem ActsAt.below {w w' : World} {A : Option Addr} {n B : Nat} {L : List (Nat × Int)} (h : ActsAt w A n L) (hb : Below B w w') (hB : w.heap.size ≤ B) : ActsAt w' A n L :=
  ⟨h.1, h.2.1, h.2.2.1, fun hn => by
    obtain ⟨b, off, e, hlt, hc⟩ := h.2.2.2 hn
    exact ⟨b, off, e, Nat.lt_of_lt_of_le hlt hb.size, fun i x hx => ⟨(hb.cell (p := ⟨b, _, none⟩) (by show b < B; omega)).trans (hc i x hx).1, (hb.cell (p := ⟨b, _, none⟩) (by show b < B; omega)).trans (hc i x hx).2⟩⟩⟩

set_option maxRecDepth 100000 in
set_option maxHeartbeats 8000000 in
theorem playsLaw_any (l : List UInt8) (A : Option Addr) (n c : Nat) (L : List (Nat × Int)) (w : World) (hL : ActsAt w A n L) (hl : l.length ≤ 9223372036854775807) :
    Calls Tryd.prog 4 #[str l, .slice A n c] w fun e w' => e = .returned (.bool true) ∧ Below w.heap.size w w' := by
  have hnn := hL.2.1
  by_cases hlong : 3000 < l.length ∨ 100 < n
  · go_enter Tryd.func4, Tryd.ntmps4
    go_wp2_with fail
    refine (awake_any _).mono ?_
    rintro e w1 ⟨rfl, hb1⟩
    rcases hlong with hlong | hlong
    · go_wp2_with fail
      refine (awake_any _).mono ?_
      rintro e w2 ⟨rfl, hb2⟩
      go_wp2_with fail
      go_ret
      exact ⟨rfl, hb1.trans (hb2.mono hb1.size)⟩
    · by_cases hlong2 : 3000 < l.length
      all_goals
        go_wp2_with fail
        refine (awake_any _).mono ?_
        rintro e w2 ⟨rfl, hb2⟩
        go_wp2_with fail
        go_ret
        exact ⟨rfl, hb1.trans (hb2.mono hb1.size)⟩
  · have hl3 : l.length ≤ 3000 := by omega
    have hn3 : n ≤ 100 := by omega
    clear hlong
    have HL := Lib.hid hL
    go_enter Tryd.func4, Tryd.ntmps4
    go_wp2_with fail
    refine (awake_any _).mono ?_
    rintro e w1 ⟨rfl, hb1⟩
    go_wp2_with fail
    refine (new_any l _ (by omega)).mono ?_
    rintro e w2 ⟨rfl, hR, hb2⟩
    have hB1 := hb1.size
    have hc2 := hb1.trans (hb2.mono hb1.size)
    have hB2 := hR.lt
    generalize w1.heap.size = B at *
    have HR := Lib.hid hR
    clear hR hb1 hb2 hL
    go_wp2_with fail
    go_loopw [6, 7] (fun a t wr => ∃ i p : Nat, i ≤ n ∧ t = .int .i64 i ∧ a = .int .i64 p ∧ p ≤ l.length ∧ RdAt wr B l p ∧ Below w.heap.size w wr) (fun _ t _ => n - (intOf t).toNat)
    case atStart => exact ⟨0, 0, Nat.zero_le _, rfl, rfl, Nat.zero_le _, HR.out, hc2⟩
    case round =>
      obtain ⟨i, p, hi, rfl, rfl, hp, hR, hb⟩ := hrel
      have HR2 := Lib.hid hR
      have hBl := hR.lt
      clear hR
      by_cases hlt : i < n
      · obtain ⟨x, hx⟩ : ∃ x, L[i]? = some x := ⟨_, List.getElem?_eq_getElem (by rw [HL.out.1]; exact hlt)⟩
        obtain ⟨hx1, hx2, hx3⟩ := HL.out.2.2.1 x (List.mem_of_getElem? hx)
        obtain ⟨bl, ol, rfl, hbl, hcl⟩ := (HL.out.below hb (Nat.le_refl _)).2.2.2 (by omega)
        obtain ⟨x1, x2⟩ := hcl i x hx
        obtain ⟨xd, xn⟩ := x
        simp only at hx1 hx2 hx3 x1 x2
        have hxd : (xd : Int) ≤ 255 := by omega
        have hi0 : (0 : Int) ≤ i := by omega
        have hi1 : (i : Int) < n := by omega
        have w0 : IntKind.i64.wrap ((l.length : Int) - p) = (l.length : Int) - p := by rw [IntKind.wrap_i64] <;> omega
        clear hx hcl
        have hmod : (xd : Int) % 4 = 0 ∨ (xd : Int) % 4 = 1 ∨ (xd : Int) % 4 = 2 ∨ (xd : Int) % 4 = 3 := by omega
        have htm : (xd : Int).tmod 4 = (xd : Int) % 4 := Int.tmod_eq_emod_of_nonneg (by omega)
        rcases hmod with hm | hm | hm | hm
        · rw [hm] at htm
          go_wp2_with fail
          go_cut [9] (fun s9 wx => s9 = .int .i64 4 ∧ Below wr.heap.size wr wx)
          case first =>
            clear HR2 HL
            go_region
            all_goals go_wp2_with fail
            all_goals go_meet
            all_goals exact ⟨rfl, ((Below.refl _ _).alloc (Nat.le_refl _) _).drew⟩
          case rest =>
          obtain ⟨rfl, hbx⟩ := hcut
          have y1 := keep_cell hbx x1 hbl
          have y2 := keep_cell hbx x2 hbl
          have HRx := Lib.hid (HR2.out.keep hbx hBl)
          have hbx2 := hb.trans (hbx.mono hb.size)
          clear x1 x2 hbx
          by_cases hle : (l.length : Int) - p < 4
          · have he : nbErr l p 4 = 2 ∧ rdN l p 4 = 0 ∧ nbPos l p 4 = p := by
              unfold nbErr rdN nbPos; rw [if_pos (show (l.length : Int) - p < (4 : Nat) from hle), if_pos (show (l.length : Int) - p < (4 : Nat) from hle), if_pos (show (l.length : Int) - p < (4 : Nat) from hle)]; exact ⟨rfl, rfl, rfl⟩
            have HC := Lib.hid (rU32_any B p l _ HRx.out)
            rw [he.1, he.2.1, he.2.2] at HC
            clear he
            go_wp2_with fail
            refine HC.out.mono ?_
            rintro e wn ⟨rfl, hRn, hGn⟩
            have HRn := Lib.hid hRn
            have hbn := Below.only hbx2 hGn hB1
            clear hRn
            go_wp2_with fail
            refine (numRef_any [] _ (by simp)).mono ?_
            rintro e wm ⟨rfl, rfl⟩
            have hpl : p ≤ l.length := by omega
            have HQ1 : Hid (∀ k, Calls Tryd.prog 11 #[.pointer (some ⟨B, 0, none⟩)] (wn.drewN k) fun e w' => e = .returned (.int .i64 ((l.length : Int) - ((p : Int)))) ∧ ∃ n, w' = (wn.drewN k).drewN n) :=
              Lib.hid fun k => (left_any B (p) l _ (HRn.out.drewN k)).mono fun e w' h => ⟨h.1.trans (ret_int (by omega)), h.2⟩
            have HQ2 : Hid (∀ k, Calls Tryd.prog 12 #[.pointer (some ⟨B, 0, none⟩)] (wn.drewN k) fun e w' => e = .returned (.bool (allZ (l.drop (p)))) ∧ ∃ n, w' = (wn.drewN k).drewN n) :=
              Lib.hid fun k => rZeros_any B (p) l _ (HRn.out.drewN k)
            have HQ3 : Hid (∀ k, Calls Tryd.prog 15 #[str (l.drop (p))] (wn.drewN k) fun e w' => e = .returned (.bool (allZ (l.drop (p)))) ∧ w' = (wn.drewN k)) :=
              Lib.hid fun k => (zeros_any (l.drop (p)) (wn.drewN k) (by rw [List.length_drop]; omega)).mono fun e w' h => ⟨h.1, h.2.symm⟩
            have HE := rd_rest l (p) hpl
            generalize l.drop (p) = rst at HQ2 HQ3 HE
            have wq : IntKind.i64.wrap ((l.length : Int) - ((p : Int))) = (l.length : Int) - ((p : Int)) := by rw [IntKind.wrap_i64] <;> omega
            have b0 : (0 : Int) ≤ (p : Int) := by omega
            have b1 : (p : Int) ≤ (l.length : Int) := by omega
            have tn : ((p : Int) : Int).toNat = p := by omega
            clear y1 y2 HRx HL HR2
            go_wp2_with fail
            go_quiet ((first | (go_at_call 11; exact Calls.quiet_of (HQ1.out _)) | (go_at_call 12; exact Calls.quiet_of (HQ2.out _)) | (go_at_call 15; exact Calls.quiet_of_same (HQ3.out _))))
            go_wp2_with fail
            go_roundw
            case rel => exact ⟨i + 1, p, by omega, by go_num, by go_num, hpl, HRn.out.drewN _, below_drewN hbn _⟩
            case measure => simp [intOf]; omega
          · have he : nbErr l p 4 = 0 ∧ rdN l p 4 = leNat ((l.drop p).take 4) ∧ nbPos l p 4 = p + 4 := by
              unfold nbErr rdN nbPos; rw [if_neg (show ¬ (l.length : Int) - p < (4 : Nat) from hle), if_neg (show ¬ (l.length : Int) - p < (4 : Nat) from hle), if_neg (show ¬ (l.length : Int) - p < (4 : Nat) from hle)]; exact ⟨rfl, rfl, rfl⟩
            have HC := Lib.hid (rU32_any B p l _ HRx.out)
            have hVb := rdN_lt l p 4
            rw [he.2.1] at hVb
            rw [he.1, he.2.1, he.2.2] at HC
            clear he
            have p0 : (p : Int) + 4 ≤ l.length := by omega
            have p1 : (0 : Int) ≤ p := by omega
            have p2 : (p : Int) ≤ p + 4 := by omega
            have wp' : IntKind.i64.wrap ((p : Int) + 4) = (p : Int) + 4 := by rw [IntKind.wrap_i64] <;> omega
            have hlen : ((l.drop p).take 4).length ≤ 8 := by rw [List.length_take]; omega
            have HN := Lib.hid fun W => numRef_any ((l.drop p).take 4) W hlen
            have HX := rd_extract l p 4
            generalize (l.drop p).take 4 = part at HX HN HC hVb
            generalize leNat part = V at HN HC hVb
            have hVu : IntKind.u64.wrap (V : Int) = (V : Int) := IntWalk.u64_in _ (by omega)
            go_wp2_with fail
            refine HC.out.mono ?_
            rintro e wn ⟨rfl, hRn, hGn⟩
            have HRn := Lib.hid hRn
            have hbn := Below.only hbx2 hGn hB1
            clear hRn
            go_wp2_with fail
            refine (HN.out _).mono ?_
            rintro e wm ⟨rfl, rfl⟩
            clear HX
            have hpl : p + 4 ≤ l.length := by omega
            have HQ1 : Hid (∀ k, Calls Tryd.prog 11 #[.pointer (some ⟨B, 0, none⟩)] (wn.drewN k) fun e w' => e = .returned (.int .i64 ((l.length : Int) - ((p : Int) + 4))) ∧ ∃ n, w' = (wn.drewN k).drewN n) :=
              Lib.hid fun k => (left_any B (p + 4) l _ (HRn.out.drewN k)).mono fun e w' h => ⟨h.1.trans (ret_int (by omega)), h.2⟩
            have HQ2 : Hid (∀ k, Calls Tryd.prog 12 #[.pointer (some ⟨B, 0, none⟩)] (wn.drewN k) fun e w' => e = .returned (.bool (allZ (l.drop (p + 4)))) ∧ ∃ n, w' = (wn.drewN k).drewN n) :=
              Lib.hid fun k => rZeros_any B (p + 4) l _ (HRn.out.drewN k)
            have HQ3 : Hid (∀ k, Calls Tryd.prog 15 #[str (l.drop (p + 4))] (wn.drewN k) fun e w' => e = .returned (.bool (allZ (l.drop (p + 4)))) ∧ w' = (wn.drewN k)) :=
              Lib.hid fun k => (zeros_any (l.drop (p + 4)) (wn.drewN k) (by rw [List.length_drop]; omega)).mono fun e w' h => ⟨h.1, h.2.symm⟩
            have HE := rd_rest l (p + 4) hpl
            generalize l.drop (p + 4) = rst at HQ2 HQ3 HE
            have wq : IntKind.i64.wrap ((l.length : Int) - ((p : Int) + 4)) = (l.length : Int) - ((p : Int) + 4) := by rw [IntKind.wrap_i64] <;> omega
            have b0 : (0 : Int) ≤ (p : Int) + 4 := by omega
            have b1 : (p : Int) + 4 ≤ (l.length : Int) := by omega
            have tn : ((p : Int) + 4 : Int).toNat = p + 4 := by omega
            clear y1 y2 HRx HL HR2
            go_wp2_with fail
            go_quiet ((first | (go_at_call 11; exact Calls.quiet_of (HQ1.out _)) | (go_at_call 12; exact Calls.quiet_of (HQ2.out _)) | (go_at_call 15; exact Calls.quiet_of_same (HQ3.out _))))
            go_wp2_with fail
            go_roundw
            case rel => exact ⟨i + 1, p + 4, by omega, by go_num, by go_num, hpl, HRn.out.drewN _, below_drewN hbn _⟩
            case measure => simp [intOf]; omega
        · rw [hm] at htm
          go_wp2_with fail
          go_cut [9] (fun s9 wx => s9 = .int .i64 8 ∧ Below wr.heap.size wr wx)
          case first =>
            clear HR2 HL
            go_region
            all_goals go_wp2_with fail
            all_goals go_meet
            all_goals exact ⟨rfl, ((Below.refl _ _).alloc (Nat.le_refl _) _).drew⟩
          case rest =>
          obtain ⟨rfl, hbx⟩ := hcut
          have y1 := keep_cell hbx x1 hbl
          have y2 := keep_cell hbx x2 hbl
          have HRx := Lib.hid (HR2.out.keep hbx hBl)
          have hbx2 := hb.trans (hbx.mono hb.size)
          clear x1 x2 hbx
          by_cases hle : (l.length : Int) - p < 8
          · have he : nbErr l p 8 = 2 ∧ rdN l p 8 = 0 ∧ nbPos l p 8 = p := by
              unfold nbErr rdN nbPos; rw [if_pos (show (l.length : Int) - p < (8 : Nat) from hle), if_pos (show (l.length : Int) - p < (8 : Nat) from hle), if_pos (show (l.length : Int) - p < (8 : Nat) from hle)]; exact ⟨rfl, rfl, rfl⟩
            have HC := Lib.hid (rU64_any B p l _ HRx.out)
            rw [he.1, he.2.1, he.2.2] at HC
            clear he
            go_wp2_with fail
            refine HC.out.mono ?_
            rintro e wn ⟨rfl, hRn, hGn⟩
            have HRn := Lib.hid hRn
            have hbn := Below.only hbx2 hGn hB1
            clear hRn
            go_wp2_with fail
            refine (numRef_any [] _ (by simp)).mono ?_
            rintro e wm ⟨rfl, rfl⟩
            have hpl : p ≤ l.length := by omega
            have HQ1 : Hid (∀ k, Calls Tryd.prog 11 #[.pointer (some ⟨B, 0, none⟩)] (wn.drewN k) fun e w' => e = .returned (.int .i64 ((l.length : Int) - ((p : Int)))) ∧ ∃ n, w' = (wn.drewN k).drewN n) :=
              Lib.hid fun k => (left_any B (p) l _ (HRn.out.drewN k)).mono fun e w' h => ⟨h.1.trans (ret_int (by omega)), h.2⟩
            have HQ2 : Hid (∀ k, Calls Tryd.prog 12 #[.pointer (some ⟨B, 0, none⟩)] (wn.drewN k) fun e w' => e = .returned (.bool (allZ (l.drop (p)))) ∧ ∃ n, w' = (wn.drewN k).drewN n) :=
              Lib.hid fun k => rZeros_any B (p) l _ (HRn.out.drewN k)
            have HQ3 : Hid (∀ k, Calls Tryd.prog 15 #[str (l.drop (p))] (wn.drewN k) fun e w' => e = .returned (.bool (allZ (l.drop (p)))) ∧ w' = (wn.drewN k)) :=
              Lib.hid fun k => (zeros_any (l.drop (p)) (wn.drewN k) (by rw [List.length_drop]; omega)).mono fun e w' h => ⟨h.1, h.2.symm⟩
            have HE := rd_rest l (p) hpl
            generalize l.drop (p) = rst at HQ2 HQ3 HE
            have wq : IntKind.i64.wrap ((l.length : Int) - ((p : Int))) = (l.length : Int) - ((p : Int)) := by rw [IntKind.wrap_i64] <;> omega
            have b0 : (0 : Int) ≤ (p : Int) := by omega
            have b1 : (p : Int) ≤ (l.length : Int) := by omega
            have tn : ((p : Int) : Int).toNat = p := by omega
            clear y1 y2 HRx HL HR2
            go_wp2_with fail
            go_quiet ((first | (go_at_call 11; exact Calls.quiet_of (HQ1.out _)) | (go_at_call 12; exact Calls.quiet_of (HQ2.out _)) | (go_at_call 15; exact Calls.quiet_of_same (HQ3.out _))))
            go_wp2_with fail
            go_roundw
            case rel => exact ⟨i + 1, p, by omega, by go_num, by go_num, hpl, HRn.out.drewN _, below_drewN hbn _⟩
            case measure => simp [intOf]; omega
          · have he : nbErr l p 8 = 0 ∧ rdN l p 8 = leNat ((l.drop p).take 8) ∧ nbPos l p 8 = p + 8 := by
              unfold nbErr rdN nbPos; rw [if_neg (show ¬ (l.length : Int) - p < (8 : Nat) from hle), if_neg (show ¬ (l.length : Int) - p < (8 : Nat) from hle), if_neg (show ¬ (l.length : Int) - p < (8 : Nat) from hle)]; exact ⟨rfl, rfl, rfl⟩
            have HC := Lib.hid (rU64_any B p l _ HRx.out)
            have hVb := rdN_lt l p 8
            rw [he.2.1] at hVb
            rw [he.1, he.2.1, he.2.2] at HC
            clear he
            have p0 : (p : Int) + 8 ≤ l.length := by omega
            have p1 : (0 : Int) ≤ p := by omega
            have p2 : (p : Int) ≤ p + 8 := by omega
            have wp' : IntKind.i64.wrap ((p : Int) + 8) = (p : Int) + 8 := by rw [IntKind.wrap_i64] <;> omega
            have hlen : ((l.drop p).take 8).length ≤ 8 := by rw [List.length_take]; omega
            have HN := Lib.hid fun W => numRef_any ((l.drop p).take 8) W hlen
            have HX := rd_extract l p 8
            generalize (l.drop p).take 8 = part at HX HN HC hVb
            generalize leNat part = V at HN HC hVb
            have hVu : IntKind.u64.wrap (V : Int) = (V : Int) := IntWalk.u64_in _ (by omega)
            go_wp2_with fail
            refine HC.out.mono ?_
            rintro e wn ⟨rfl, hRn, hGn⟩
            have HRn := Lib.hid hRn
            have hbn := Below.only hbx2 hGn hB1
            clear hRn
            go_wp2_with fail
            refine (HN.out _).mono ?_
            rintro e wm ⟨rfl, rfl⟩
            clear HX
            have hpl : p + 8 ≤ l.length := by omega
            have HQ1 : Hid (∀ k, Calls Tryd.prog 11 #[.pointer (some ⟨B, 0, none⟩)] (wn.drewN k) fun e w' => e = .returned (.int .i64 ((l.length : Int) - ((p : Int) + 8))) ∧ ∃ n, w' = (wn.drewN k).drewN n) :=
              Lib.hid fun k => (left_any B (p + 8) l _ (HRn.out.drewN k)).mono fun e w' h => ⟨h.1.trans (ret_int (by omega)), h.2⟩
            have HQ2 : Hid (∀ k, Calls Tryd.prog 12 #[.pointer (some ⟨B, 0, none⟩)] (wn.drewN k) fun e w' => e = .returned (.bool (allZ (l.drop (p + 8)))) ∧ ∃ n, w' = (wn.drewN k).drewN n) :=
              Lib.hid fun k => rZeros_any B (p + 8) l _ (HRn.out.drewN k)
            have HQ3 : Hid (∀ k, Calls Tryd.prog 15 #[str (l.drop (p + 8))] (wn.drewN k) fun e w' => e = .returned (.bool (allZ (l.drop (p + 8)))) ∧ w' = (wn.drewN k)) :=
              Lib.hid fun k => (zeros_any (l.drop (p + 8)) (wn.drewN k) (by rw [List.length_drop]; omega)).mono fun e w' h => ⟨h.1, h.2.symm⟩
            have HE := rd_rest l (p + 8) hpl
            generalize l.drop (p + 8) = rst at HQ2 HQ3 HE
            have wq : IntKind.i64.wrap ((l.length : Int) - ((p : Int) + 8)) = (l.length : Int) - ((p : Int) + 8) := by rw [IntKind.wrap_i64] <;> omega
            have b0 : (0 : Int) ≤ (p : Int) + 8 := by omega
            have b1 : (p : Int) + 8 ≤ (l.length : Int) := by omega
            have tn : ((p : Int) + 8 : Int).toNat = p + 8 := by omega
            clear y1 y2 HRx HL HR2
            go_wp2_with fail
            go_quiet ((first | (go_at_call 11; exact Calls.quiet_of (HQ1.out _)) | (go_at_call 12; exact Calls.quiet_of (HQ2.out _)) | (go_at_call 15; exact Calls.quiet_of_same (HQ3.out _))))
            go_wp2_with fail
            go_roundw
            case rel => exact ⟨i + 1, p + 8, by omega, by go_num, by go_num, hpl, HRn.out.drewN _, below_drewN hbn _⟩
            case measure => simp [intOf]; omega
        · rw [hm] at htm
          go_wp2_with fail
          go_cut [9] (fun s9 wx => s9 = .int .i64 8 ∧ Below wr.heap.size wr wx)
          case first =>
            clear HR2 HL
            go_region
            all_goals go_wp2_with fail
            all_goals go_meet
            all_goals exact ⟨rfl, ((Below.refl _ _).alloc (Nat.le_refl _) _).drew⟩
          case rest =>
          obtain ⟨rfl, hbx⟩ := hcut
          have y1 := keep_cell hbx x1 hbl
          have y2 := keep_cell hbx x2 hbl
          have HRx := Lib.hid (HR2.out.keep hbx hBl)
          have hbx2 := hb.trans (hbx.mono hb.size)
          clear x1 x2 hbx
          by_cases hle : (l.length : Int) - p < 8
          · have he : inErr l p = 2 ∧ inVal l p = 0 ∧ inPos l p = p := by
              have e : inErr l p = 2 := by unfold inErr; rw [if_pos hle]
              unfold inVal inPos; rw [e]; exact ⟨rfl, rfl, rfl⟩
            have HC := Lib.hid (rInt_any B p l _ HRx.out)
            rw [he.1, he.2.1, he.2.2] at HC
            clear he
            go_wp2_with fail
            refine HC.out.mono ?_
            rintro e wn ⟨rfl, hRn, hGn⟩
            have HRn := Lib.hid hRn
            have hbn := Below.only hbx2 hGn hB1
            clear hRn
            go_wp2_with fail
            refine (numRef_any [] _ (by simp)).mono ?_
            rintro e wm ⟨rfl, rfl⟩
            have hpl : p ≤ l.length := by omega
            have HQ1 : Hid (∀ k, Calls Tryd.prog 11 #[.pointer (some ⟨B, 0, none⟩)] (wn.drewN k) fun e w' => e = .returned (.int .i64 ((l.length : Int) - ((p : Int)))) ∧ ∃ n, w' = (wn.drewN k).drewN n) :=
              Lib.hid fun k => (left_any B (p) l _ (HRn.out.drewN k)).mono fun e w' h => ⟨h.1.trans (ret_int (by omega)), h.2⟩
            have HQ2 : Hid (∀ k, Calls Tryd.prog 12 #[.pointer (some ⟨B, 0, none⟩)] (wn.drewN k) fun e w' => e = .returned (.bool (allZ (l.drop (p)))) ∧ ∃ n, w' = (wn.drewN k).drewN n) :=
              Lib.hid fun k => rZeros_any B (p) l _ (HRn.out.drewN k)
            have HQ3 : Hid (∀ k, Calls Tryd.prog 15 #[str (l.drop (p))] (wn.drewN k) fun e w' => e = .returned (.bool (allZ (l.drop (p)))) ∧ w' = (wn.drewN k)) :=
              Lib.hid fun k => (zeros_any (l.drop (p)) (wn.drewN k) (by rw [List.length_drop]; omega)).mono fun e w' h => ⟨h.1, h.2.symm⟩
            have HE := rd_rest l (p) hpl
            generalize l.drop (p) = rst at HQ2 HQ3 HE
            have wq : IntKind.i64.wrap ((l.length : Int) - ((p : Int))) = (l.length : Int) - ((p : Int)) := by rw [IntKind.wrap_i64] <;> omega
            have b0 : (0 : Int) ≤ (p : Int) := by omega
            have b1 : (p : Int) ≤ (l.length : Int) := by omega
            have tn : ((p : Int) : Int).toNat = p := by omega
            clear y1 y2 HRx HL HR2
            go_wp2_with fail
            go_quiet ((first | (go_at_call 11; exact Calls.quiet_of (HQ1.out _)) | (go_at_call 12; exact Calls.quiet_of (HQ2.out _)) | (go_at_call 15; exact Calls.quiet_of_same (HQ3.out _))))
            go_wp2_with fail
            go_roundw
            case rel => exact ⟨i + 1, p, by omega, by go_num, by go_num, hpl, HRn.out.drewN _, below_drewN hbn _⟩
            case measure => simp [intOf]; omega
          · have p0 : (p : Int) + 8 ≤ l.length := by omega
            have p1 : (0 : Int) ≤ p := by omega
            have p2 : (p : Int) ≤ p + 8 := by omega
            have wp' : IntKind.i64.wrap ((p : Int) + 8) = (p : Int) + 8 := by rw [IntKind.wrap_i64] <;> omega
            have hlen : ((l.drop p).take 8).length ≤ 8 := by rw [List.length_take]; omega
            have hVb := rdN_lt l p 8
            have hv : rdN l p 8 = leNat ((l.drop p).take 8) := by unfold rdN; rw [if_neg (show ¬ (l.length : Int) - p < (8 : Nat) from hle)]
            rw [hv] at hVb
            have HN := Lib.hid fun W => numRef_any ((l.drop p).take 8) W hlen
            have HX := rd_extract l p 8
            have HC := Lib.hid (rInt_any B p l · ·)
            by_cases hbig : 4611686018427387904 ≤ leNat ((l.drop p).take 8)
            · have he : inErr l p = 3 ∧ inVal l p = 0 ∧ inPos l p = p := by
                have e : inErr l p = 3 := by unfold inErr; rw [if_neg hle, if_pos hbig]
                unfold inVal inPos; rw [e]; exact ⟨rfl, rfl, rfl⟩
              rw [he.1, he.2.1, he.2.2] at HC
              clear he hv
              generalize (l.drop p).take 8 = part at HX HN hVb hbig hlen
              generalize leNat part = V at HN hVb hbig
              have hd : decide ((4611686018427387904 : Int) ≤ (V : Int)) = true := decide_eq_true (by omega)
              go_wp2_with fail
              refine (HN.out _).mono ?_
              rintro e wm ⟨rfl, rfl⟩
              go_wp2_with fail
              refine (HC.out _ HRx.out).mono ?_
              rintro e wn ⟨rfl, hRn, hGn⟩
              have HRn := Lib.hid hRn
              have hbn := Below.only hbx2 hGn hB1
              clear hRn HX
              go_wp2_with fail
              refine (numRef_any [] _ (by simp)).mono ?_
              rintro e wm ⟨rfl, rfl⟩
              have hpl : p ≤ l.length := by omega
              have HQ1 : Hid (∀ k, Calls Tryd.prog 11 #[.pointer (some ⟨B, 0, none⟩)] (wn.drewN k) fun e w' => e = .returned (.int .i64 ((l.length : Int) - ((p : Int)))) ∧ ∃ n, w' = (wn.drewN k).drewN n) :=
                Lib.hid fun k => (left_any B (p) l _ (HRn.out.drewN k)).mono fun e w' h => ⟨h.1.trans (ret_int (by omega)), h.2⟩
              have HQ2 : Hid (∀ k, Calls Tryd.prog 12 #[.pointer (some ⟨B, 0, none⟩)] (wn.drewN k) fun e w' => e = .returned (.bool (allZ (l.drop (p)))) ∧ ∃ n, w' = (wn.drewN k).drewN n) :=
                Lib.hid fun k => rZeros_any B (p) l _ (HRn.out.drewN k)
              have HQ3 : Hid (∀ k, Calls Tryd.prog 15 #[str (l.drop (p))] (wn.drewN k) fun e w' => e = .returned (.bool (allZ (l.drop (p)))) ∧ w' = (wn.drewN k)) :=
                Lib.hid fun k => (zeros_any (l.drop (p)) (wn.drewN k) (by rw [List.length_drop]; omega)).mono fun e w' h => ⟨h.1, h.2.symm⟩
              have HE := rd_rest l (p) hpl
              generalize l.drop (p) = rst at HQ2 HQ3 HE
              have wq : IntKind.i64.wrap ((l.length : Int) - ((p : Int))) = (l.length : Int) - ((p : Int)) := by rw [IntKind.wrap_i64] <;> omega
              have b0 : (0 : Int) ≤ (p : Int) := by omega
              have b1 : (p : Int) ≤ (l.length : Int) := by omega
              have tn : ((p : Int) : Int).toNat = p := by omega
              clear y1 y2 HRx HL HR2
              go_wp2_with fail
              go_quiet ((first | (go_at_call 11; exact Calls.quiet_of (HQ1.out _)) | (go_at_call 12; exact Calls.quiet_of (HQ2.out _)) | (go_at_call 15; exact Calls.quiet_of_same (HQ3.out _))))
              go_wp2_with fail
              go_roundw
              case rel => exact ⟨i + 1, p, by omega, by go_num, by go_num, hpl, HRn.out.drewN _, below_drewN hbn _⟩
              case measure => simp [intOf]; omega
            · have he : inErr l p = 0 ∧ inVal l p = leNat ((l.drop p).take 8) ∧ inPos l p = p + 8 := by
                have e : inErr l p = 0 := by unfold inErr; rw [if_neg hle, if_neg hbig]
                unfold inVal inPos; rw [e, ← hv]; exact ⟨rfl, rfl, rfl⟩
              rw [he.1, he.2.1, he.2.2] at HC
              clear he hv
              generalize (l.drop p).take 8 = part at HX HN hVb hbig hlen HC
              generalize leNat part = V at HN hVb hbig HC
              have hVu : IntKind.u64.wrap (V : Int) = (V : Int) := IntWalk.u64_in _ (by omega)
              have hd : decide ((4611686018427387904 : Int) ≤ (V : Int)) = false := decide_eq_false (by omega)
              go_wp2_with fail
              refine (HN.out _).mono ?_
              rintro e wm ⟨rfl, rfl⟩
              go_wp2_with fail
              refine (HC.out _ HRx.out).mono ?_
              rintro e wn ⟨rfl, hRn, hGn⟩
              have HRn := Lib.hid hRn
              have hbn := Below.only hbx2 hGn hB1
              clear hRn
              go_wp2_with fail
              refine (HN.out _).mono ?_
              rintro e wm ⟨rfl, rfl⟩
              clear HX
              have hpl : p + 8 ≤ l.length := by omega
              have HQ1 : Hid (∀ k, Calls Tryd.prog 11 #[.pointer (some ⟨B, 0, none⟩)] (wn.drewN k) fun e w' => e = .returned (.int .i64 ((l.length : Int) - ((p : Int) + 8))) ∧ ∃ n, w' = (wn.drewN k).drewN n) :=
                Lib.hid fun k => (left_any B (p + 8) l _ (HRn.out.drewN k)).mono fun e w' h => ⟨h.1.trans (ret_int (by omega)), h.2⟩
              have HQ2 : Hid (∀ k, Calls Tryd.prog 12 #[.pointer (some ⟨B, 0, none⟩)] (wn.drewN k) fun e w' => e = .returned (.bool (allZ (l.drop (p + 8)))) ∧ ∃ n, w' = (wn.drewN k).drewN n) :=
                Lib.hid fun k => rZeros_any B (p + 8) l _ (HRn.out.drewN k)
              have HQ3 : Hid (∀ k, Calls Tryd.prog 15 #[str (l.drop (p + 8))] (wn.drewN k) fun e w' => e = .returned (.bool (allZ (l.drop (p + 8)))) ∧ w' = (wn.drewN k)) :=
                Lib.hid fun k => (zeros_any (l.drop (p + 8)) (wn.drewN k) (by rw [List.length_drop]; omega)).mono fun e w' h => ⟨h.1, h.2.symm⟩
              have HE := rd_rest l (p + 8) hpl
              generalize l.drop (p + 8) = rst at HQ2 HQ3 HE
              have wq : IntKind.i64.wrap ((l.length : Int) - ((p : Int) + 8)) = (l.length : Int) - ((p : Int) + 8) := by rw [IntKind.wrap_i64] <;> omega
              have b0 : (0 : Int) ≤ (p : Int) + 8 := by omega
              have b1 : (p : Int) + 8 ≤ (l.length : Int) := by omega
              have tn : ((p : Int) + 8 : Int).toNat = p + 8 := by omega
              clear y1 y2 HRx HL HR2
              go_wp2_with fail
              go_quiet ((first | (go_at_call 11; exact Calls.quiet_of (HQ1.out _)) | (go_at_call 12; exact Calls.quiet_of (HQ2.out _)) | (go_at_call 15; exact Calls.quiet_of_same (HQ3.out _))))
              go_wp2_with fail
              go_roundw
              case rel => exact ⟨i + 1, p + 8, by omega, by go_num, by go_num, hpl, HRn.out.drewN _, below_drewN hbn _⟩
              case measure => simp [intOf]; omega
        · rw [hm] at htm
          go_wp2_with fail
          go_cut [9] (fun s9 wx => s9 = .int .i64 xn ∧ Below wr.heap.size wr wx)
          case first =>
            clear HR2 HL
            go_region
            all_goals go_wp2_with fail
            all_goals go_meet
            all_goals exact ⟨rfl, ((Below.refl _ _).alloc (Nat.le_refl _) _).drew⟩
          case rest =>
          obtain ⟨rfl, hbx⟩ := hcut
          have y1 := keep_cell hbx x1 hbl
          have y2 := keep_cell hbx x2 hbl
          have HRx := Lib.hid (HR2.out.keep hbx hBl)
          have hbx2 := hb.trans (hbx.mono hb.size)
          clear x1 x2 hbx
          have HC := Lib.hid (take_any B p l xn _ HRx.out hx3)
          by_cases hneg : xn < 0
          · have he : tkErr l p xn = 1 := by unfold tkErr; rw [if_pos hneg]
            have hs : tkStr l p xn = [] ∧ tkPos l p xn = p := by unfold tkStr tkPos; rw [he]; exact ⟨rfl, rfl⟩
            rw [he, hs.1, hs.2] at HC
            clear he hs
            go_wp2_with fail
            refine HC.out.mono ?_
            rintro e wn ⟨rfl, hRn, hGn⟩
            have HRn := Lib.hid hRn
            have hbn := Below.only hbx2 hGn hB1
            clear hRn
            have hpl : p ≤ l.length := by omega
            have HQ1 : Hid (∀ k, Calls Tryd.prog 11 #[.pointer (some ⟨B, 0, none⟩)] (wn.drewN k) fun e w' => e = .returned (.int .i64 ((l.length : Int) - ((p : Int)))) ∧ ∃ n, w' = (wn.drewN k).drewN n) :=
              Lib.hid fun k => (left_any B (p) l _ (HRn.out.drewN k)).mono fun e w' h => ⟨h.1.trans (ret_int (by omega)), h.2⟩
            have HQ2 : Hid (∀ k, Calls Tryd.prog 12 #[.pointer (some ⟨B, 0, none⟩)] (wn.drewN k) fun e w' => e = .returned (.bool (allZ (l.drop (p)))) ∧ ∃ n, w' = (wn.drewN k).drewN n) :=
              Lib.hid fun k => rZeros_any B (p) l _ (HRn.out.drewN k)
            have HQ3 : Hid (∀ k, Calls Tryd.prog 15 #[str (l.drop (p))] (wn.drewN k) fun e w' => e = .returned (.bool (allZ (l.drop (p)))) ∧ w' = (wn.drewN k)) :=
              Lib.hid fun k => (zeros_any (l.drop (p)) (wn.drewN k) (by rw [List.length_drop]; omega)).mono fun e w' h => ⟨h.1, h.2.symm⟩
            have HE := rd_rest l (p) hpl
            generalize l.drop (p) = rst at HQ2 HQ3 HE
            have wq : IntKind.i64.wrap ((l.length : Int) - ((p : Int))) = (l.length : Int) - ((p : Int)) := by rw [IntKind.wrap_i64] <;> omega
            have b0 : (0 : Int) ≤ (p : Int) := by omega
            have b1 : (p : Int) ≤ (l.length : Int) := by omega
            have tn : ((p : Int) : Int).toNat = p := by omega
            clear y1 y2 HRx HL HR2
            go_wp2_with fail
            go_quiet ((first | (go_at_call 11; exact Calls.quiet_of (HQ1.out _)) | (go_at_call 12; exact Calls.quiet_of (HQ2.out _)) | (go_at_call 15; exact Calls.quiet_of_same (HQ3.out _))))
            go_wp2_with fail
            go_roundw
            case rel => exact ⟨i + 1, p, by omega, by go_num, by go_num, hpl, HRn.out.drewN _, below_drewN hbn _⟩
            case measure => simp [intOf]; omega
          · obtain ⟨m, rfl⟩ := Int.eq_ofNat_of_zero_le (show 0 ≤ xn by omega)
            by_cases hle : (l.length : Int) - p < m
            · have he : tkErr l p m = 2 := by unfold tkErr; rw [if_neg hneg, if_pos hle]
              have hs : tkStr l p m = [] ∧ tkPos l p m = p := by unfold tkStr tkPos; rw [he]; exact ⟨rfl, rfl⟩
              rw [he, hs.1, hs.2] at HC
              clear he hs
              go_wp2_with fail
              refine HC.out.mono ?_
              rintro e wn ⟨rfl, hRn, hGn⟩
              have HRn := Lib.hid hRn
              have hbn := Below.only hbx2 hGn hB1
              clear hRn
              have hpl : p ≤ l.length := by omega
              have HQ1 : Hid (∀ k, Calls Tryd.prog 11 #[.pointer (some ⟨B, 0, none⟩)] (wn.drewN k) fun e w' => e = .returned (.int .i64 ((l.length : Int) - ((p : Int)))) ∧ ∃ n, w' = (wn.drewN k).drewN n) :=
                Lib.hid fun k => (left_any B (p) l _ (HRn.out.drewN k)).mono fun e w' h => ⟨h.1.trans (ret_int (by omega)), h.2⟩
              have HQ2 : Hid (∀ k, Calls Tryd.prog 12 #[.pointer (some ⟨B, 0, none⟩)] (wn.drewN k) fun e w' => e = .returned (.bool (allZ (l.drop (p)))) ∧ ∃ n, w' = (wn.drewN k).drewN n) :=
                Lib.hid fun k => rZeros_any B (p) l _ (HRn.out.drewN k)
              have HQ3 : Hid (∀ k, Calls Tryd.prog 15 #[str (l.drop (p))] (wn.drewN k) fun e w' => e = .returned (.bool (allZ (l.drop (p)))) ∧ w' = (wn.drewN k)) :=
                Lib.hid fun k => (zeros_any (l.drop (p)) (wn.drewN k) (by rw [List.length_drop]; omega)).mono fun e w' h => ⟨h.1, h.2.symm⟩
              have HE := rd_rest l (p) hpl
              generalize l.drop (p) = rst at HQ2 HQ3 HE
              have wq : IntKind.i64.wrap ((l.length : Int) - ((p : Int))) = (l.length : Int) - ((p : Int)) := by rw [IntKind.wrap_i64] <;> omega
              have b0 : (0 : Int) ≤ (p : Int) := by omega
              have b1 : (p : Int) ≤ (l.length : Int) := by omega
              have tn : ((p : Int) : Int).toNat = p := by omega
              clear y1 y2 HRx HL HR2
              go_wp2_with fail
              go_quiet ((first | (go_at_call 11; exact Calls.quiet_of (HQ1.out _)) | (go_at_call 12; exact Calls.quiet_of (HQ2.out _)) | (go_at_call 15; exact Calls.quiet_of_same (HQ3.out _))))
              go_wp2_with fail
              go_roundw
              case rel => exact ⟨i + 1, p, by omega, by go_num, by go_num, hpl, HRn.out.drewN _, below_drewN hbn _⟩
              case measure => simp [intOf]; omega
            · have he : tkErr l p m = 0 := by unfold tkErr; rw [if_neg hneg, if_neg hle]
              have hs : tkStr l p m = (l.drop p).take m ∧ tkPos l p m = p + m := by unfold tkStr tkPos; rw [he]; exact ⟨rfl, rfl⟩
              rw [he, hs.1, hs.2] at HC
              clear he hs
              have p0 : (p : Int) + m ≤ l.length := by omega
              have p1 : (0 : Int) ≤ p := by omega
              have p2 : (p : Int) ≤ p + m := by omega
              have wp' : IntKind.i64.wrap ((p : Int) + m) = (p : Int) + m := by rw [IntKind.wrap_i64] <;> omega
              have HX := rd_extract l p m
              generalize (l.drop p).take m = part at HX HC
              go_wp2_with fail
              refine HC.out.mono ?_
              rintro e wn ⟨rfl, hRn, hGn⟩
              have HRn := Lib.hid hRn
              have hbn := Below.only hbx2 hGn hB1
              clear hRn HX
              have hpl : p + m ≤ l.length := by omega
              have HQ1 : Hid (∀ k, Calls Tryd.prog 11 #[.pointer (some ⟨B, 0, none⟩)] (wn.drewN k) fun e w' => e = .returned (.int .i64 ((l.length : Int) - ((p : Int) + m))) ∧ ∃ n, w' = (wn.drewN k).drewN n) :=
                Lib.hid fun k => (left_any B (p + m) l _ (HRn.out.drewN k)).mono fun e w' h => ⟨h.1.trans (ret_int (by omega)), h.2⟩
              have HQ2 : Hid (∀ k, Calls Tryd.prog 12 #[.pointer (some ⟨B, 0, none⟩)] (wn.drewN k) fun e w' => e = .returned (.bool (allZ (l.drop (p + m)))) ∧ ∃ n, w' = (wn.drewN k).drewN n) :=
                Lib.hid fun k => rZeros_any B (p + m) l _ (HRn.out.drewN k)
              have HQ3 : Hid (∀ k, Calls Tryd.prog 15 #[str (l.drop (p + m))] (wn.drewN k) fun e w' => e = .returned (.bool (allZ (l.drop (p + m)))) ∧ w' = (wn.drewN k)) :=
                Lib.hid fun k => (zeros_any (l.drop (p + m)) (wn.drewN k) (by rw [List.length_drop]; omega)).mono fun e w' h => ⟨h.1, h.2.symm⟩
              have HE := rd_rest l (p + m) hpl
              generalize l.drop (p + m) = rst at HQ2 HQ3 HE
              have wq : IntKind.i64.wrap ((l.length : Int) - ((p : Int) + m)) = (l.length : Int) - ((p : Int) + m) := by rw [IntKind.wrap_i64] <;> omega
              have b0 : (0 : Int) ≤ (p : Int) + m := by omega
              have b1 : (p : Int) + m ≤ (l.length : Int) := by omega
              have tn : ((p : Int) + m : Int).toNat = p + m := by omega
              clear y1 y2 HRx HL HR2
              go_wp2_with fail
              go_quiet ((first | (go_at_call 11; exact Calls.quiet_of (HQ1.out _)) | (go_at_call 12; exact Calls.quiet_of (HQ2.out _)) | (go_at_call 15; exact Calls.quiet_of_same (HQ3.out _))))
              go_wp2_with fail
              go_roundw
              case rel => exact ⟨i + 1, p + m, by omega, by go_num, by go_num, hpl, HRn.out.drewN _, below_drewN hbn _⟩
              case measure => simp [intOf]; omega
      · go_wp2_with fail
        go_ret
        exact ⟨rfl, hb⟩
end Go.Proofs.YtblmjaenoleaaaaDoor
