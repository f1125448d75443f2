/-
  The walk of DevFuse.
-/
import Derived.Test.YtkaijdnaheikeaaDevW
namespace Go.Proofs.Ytkaijdnaheikeaa
set_option linter.unusedVariables false
set_option linter.unusedSimpArgs false
open Go.RowKit

theorem rfull_n {i : Nat} (hi : i < 256) (w : World) : Calls Try.prog 13 #[.int .u8 i] w fun e w' => e = .returned (str (fullL (UInt8.ofNat i))) ∧ Below w.heap.size w w' := by
  have h := rfull_any (UInt8.ofNat i) w
  have e : (UInt8.ofNat i).toNat = i := by rw [UInt8.toNat_ofNat']; exact Nat.mod_eq_of_lt hi
  rw [e] at h
  exact h
namespace DevD
/-- Eight sectors, not lost. -/
structure Eight (d : DevD) (f : Nat) : Prop where
  lost : d.lost = false
  len : d.med.length = 8
  fuse : d.fuse = f
theorem Eight.may {d : DevD} {f : Nat} (h : d.Eight f) {k : Nat} (hk : k < 8) : d.mayE k = 0 := by
  unfold mayE
  rw [h.lost, h.len]
  simp; omega
theorem Eight.wrE {d : DevD} {f : Nat} (h : d.Eight f) {k : Nat} (hk : k < 8) (b : UInt8) : d.wrE k (fullL b) = if f = 0 then 6 else 0 := by
  unfold DevD.wrE
  rw [h.may hk, fullL_len, h.fuse]
  by_cases e : f = 0
  · subst e; rfl
  · rw [if_neg (by simp), if_neg (by simp), if_neg (by omega), if_neg e]
theorem Eight.wr {d : DevD} {f : Nat} (h : d.Eight f) {k : Nat} (hk : k < 8) (b : UInt8) : (d.wr k (fullL b)).Eight (f - 1) := by
  unfold DevD.wr
  rw [h.wrE hk]
  by_cases e : f = 0
  · subst e; exact h
  · rw [if_neg e]
    exact ⟨h.lost, h.len, by show max (d.fuse - 1) (-1) = _; rw [h.fuse]; omega⟩
theorem Eight.flE {d : DevD} {f : Nat} (h : d.Eight f) : d.flE = if f = 0 then 6 else 0 := by
  unfold DevD.flE
  rw [h.lost, h.fuse]
  by_cases e : f = 0
  · subst e; rfl
  · rw [if_neg (by simp; omega), if_neg e]
theorem Eight.fl {d : DevD} {f : Nat} (h : d.Eight f) : d.fl.lost = false ∧ d.fl.med.length = 8 := by
  unfold DevD.fl
  split
  · exact ⟨h.lost, by show (List.mapIdx _ d.med).length = 8; simp [h.len]⟩
  · exact ⟨h.lost, h.len⟩
theorem crash_open {d : DevD} (h : d.lost = false ∧ d.med.length = 8) (keep : List Int) : (d.crash keep).lost = false ∧ (d.crash keep).med.length = 8 ∧ (d.crash keep).fuse = -1 := by
  unfold DevD.crash
  rw [if_neg (by simp [h.1])]
  exact ⟨h.1, by show (d.crashMed keep d.med.length).length = 8; simp [crashMed, h.2], rfl⟩
theorem open_wr {d : DevD} (h : d.lost = false ∧ d.med.length = 8 ∧ d.fuse = -1) {k : Nat} (hk : k < 8) (b : UInt8) : d.wrE k (fullL b) = 0 ∧ (d.wr k (fullL b)).flE = 0 := by
  have hm : d.mayE k = 0 := by
    unfold mayE
    rw [h.1, h.2.1]
    simp; omega
  have h1 : d.wrE k (fullL b) = 0 := by
    unfold DevD.wrE
    rw [hm, fullL_len, h.2.2]; rfl
  refine ⟨h1, ?_⟩
  unfold DevD.wr
  rw [if_pos h1]
  unfold DevD.flE
  show (if d.lost = true ∨ max (d.fuse - 1) (-1) = 0 then (6 : Int) else 0) = 0
  rw [h.1, h.2.2]; rfl
end DevD
theorem devFuse_any (n m : Nat) (w : World) (hn : n ≤ 255) (hm : m ≤ 255) : Calls Try.prog 5 #[.int .u8 n, .int .u8 m] w fun e w' => e = .returned (.bool true) ∧ Below w.heap.size w w' := by
  have HA := Lib.hid (fun W => awake_any W)
  have HF1 : Hid (∀ W, Calls Try.prog 13 #[.int .u8 1] W fun e w' => e = .returned (str (fullL 1)) ∧ Below W.heap.size W w') := Lib.hid (fun W => rfull_any 1 W)
  have HFN := Lib.hid (fun (i : Nat) (hi : i < 256) W => rfull_n hi W)
  have t1 : (n : Int).tmod 20 = ((n % 20 : Nat) : Int) := IntWalk.up_tmod rfl rfl
  have t2 : (m : Int).tmod 30 = ((m % 30 : Nat) : Int) := IntWalk.up_tmod rfl rfl
  have hf : n % 20 < 20 := Nat.mod_lt _ (by omega)
  have hg : m % 30 < 30 := Nat.mod_lt _ (by omega)
  generalize n % 20 = f at *
  generalize m % 30 = g at *
  go_enter Try.func5, Try.ntmps5
  go_wp2_with fail
  refine (HA.out _).mono ?_
  rintro e w1 ⟨rfl, hb1⟩
  have HB1 := Lib.hid hb1
  clear hb1
  go_wp2_with fail
  refine (new_s (w0 := w) 8 (by omega) (by omega) HB1.out).mono ?_
  rintro e w2 ⟨bd, rfl, hd⟩
  have HD := Lib.hid hd
  clear hd
  go_wp2_with fail
  refine (fuse_s HD.out f (by omega)).mono ?_
  rintro e w3 ⟨rfl, hd3⟩
  have h8 : ((DevD.blank 8 0).fused f).Eight f := ⟨rfl, by simp [DevD.fused, DevD.blank], by show max (f : Int) 0 = f; omega⟩
  have HD3 := Lib.hid hd3
  have H8 := Lib.hid h8
  clear hd3 h8
  go_wp2_with fail
  go_loopw [7, 8] (fun t i wr => ∃ (k : Nat) (d : DevD), k ≤ g ∧ i = .int .i64 k ∧ t = .int .i64 (min f k : Nat) ∧ DevS w wr bd d k ∧ d.Eight (f - k)) (fun _ i _ => g - (intOf i).toNat)
  case atStart => exact ⟨0, _, Nat.zero_le _, rfl, by rw [Nat.min_zero]; rfl, HD3.out, by rw [Nat.sub_zero]; exact H8.out⟩
  case round =>
    obtain ⟨k, d, hk, rfl, rfl, hd, h8⟩ := hrel
    have HDK := Lib.hid hd
    have HE := Lib.hid h8
    clear hd h8
    by_cases hlt : k < g
    · have t3 : (k : Int).tmod 8 = ((k % 8 : Nat) : Int) := IntWalk.up_tmod rfl rfl
      have hk8 : k % 8 < 8 := Nat.mod_lt _ (by omega)
      have HK8 := Lib.hid hk8
      have HLT := Lib.hid hlt
      have hdc : decide (k < g) = true := decide_eq_true hlt
      have t4 : IntKind.u8.wrap (k : Int) = k := by rw [IntKind.wrap_u8]; omega
      generalize hk8v : k % 8 = q at *
      have hwE := HE.out.wrE HK8.out (UInt8.ofNat k)
      have hW8 := HE.out.wr HK8.out (UInt8.ofNat k)
      have HW8 := Lib.hid hW8
      by_cases hfk : k < f
      · rw [if_neg (by omega)] at hwE
        have hmn : min f k = k := by omega
        have hmn2 : (min f (k + 1) : Nat) = k + 1 := by omega
        have HM2 := Lib.hid hmn2
        have HFK := Lib.hid hfk
        rw [hmn]
        have HWE := Lib.hid hwE
        have t5 : IntKind.i64.wrap ((k : Int) + 1) = k + 1 := by rw [IntKind.wrap_i64]; omega
        clear hmn hmn2 hfk hlt hwE hW8 hk8 hk8v
        go_wp2_with fail
        refine (HFN.out k (by omega) _).mono ?_
        rintro e w4 ⟨rfl, hb4⟩
        have HD4 := Lib.hid (HDK.out.below hb4)
        clear hb4
        go_wp2_with fail
        refine (write_s HD4.out (by omega) q (fullL (UInt8.ofNat k)) (by rw [fullL_len]; omega)).mono ?_
        rintro e w5 ⟨rfl, hd5⟩
        rw [HWE.out]
        have HD5 := Lib.hid hd5
        clear hd5
        go_wp2_with fail
        go_roundw
        case rel => exact ⟨k + 1, _, HLT.out, by go_num, by rw [HM2.out]; go_num, HD5.out, by rw [show f - (k + 1) = f - k - 1 by omega]; exact HW8.out⟩
        case measure => have := HLT.out; simp [intOf]; omega
      · rw [if_pos (by omega)] at hwE
        have hmn : min f k = f := by omega
        have hmn2 : (min f (k + 1) : Nat) = f := by omega
        have HM2 := Lib.hid hmn2
        have HFK := Lib.hid hfk
        rw [hmn]
        have HWE := Lib.hid hwE
        clear hmn hmn2 hfk hlt hwE hW8 hk8 hk8v
        go_wp2_with fail
        refine (HFN.out k (by omega) _).mono ?_
        rintro e w4 ⟨rfl, hb4⟩
        have HD4 := Lib.hid (HDK.out.below hb4)
        clear hb4
        go_wp2_with fail
        refine (write_s HD4.out (by omega) q (fullL (UInt8.ofNat k)) (by rw [fullL_len]; omega)).mono ?_
        rintro e w5 ⟨rfl, hd5⟩
        rw [HWE.out]
        have HD5 := Lib.hid hd5
        clear hd5
        go_wp2_with fail
        go_roundw
        case rel => exact ⟨k + 1, _, HLT.out, by go_num, by rw [HM2.out], HD5.out, by rw [show f - (k + 1) = f - k - 1 by omega]; exact HW8.out⟩
        case measure => have := HLT.out; simp [intOf]; omega
    · obtain rfl : k = g := by omega
      have hdc : decide (k < k) = false := decide_eq_false (Nat.lt_irrefl k)
      have hfE := HE.out.flE
      have HFO := Lib.hid (DevD.crash_open HE.out.fl [])
      have HOP := Lib.hid (DevD.open_wr HFO.out (k := 0) (by omega) 1)
      have tb1 : wrap64 (f : Int) = f := IntWalk.wrap64_in _ (by omega)
      by_cases hfk : k < f
      · rw [if_neg (by omega)] at hfE
        have HFE := Lib.hid hfE
        have hmn : min f k = k := by omega
        have hmi : min (f : Int) (k : Int) = k := by omega
        have hkf : decide (k < f) = true := decide_eq_true hfk
        rw [hmn]
        clear hfE hmn hlt
        go_wp2_with fail
        refine (flush_s HDK.out).mono ?_
        rintro e w4 ⟨rfl, hd4⟩
        rw [HFE.out]
        have HD4 := Lib.hid hd4
        clear hd4
        go_wp2_with fail
        refine (crash_s HD4.out (by omega) (keep_none _ _)).mono ?_
        rintro e w5 ⟨rfl, hd5⟩
        have HD5 := Lib.hid hd5
        clear hd5
        go_wp2_with fail
        refine (HF1.out _).mono ?_
        rintro e w6 ⟨rfl, hb6⟩
        have HD6 := Lib.hid (HD5.out.below hb6)
        clear hb6
        go_wp2_with fail
        refine (write_s HD6.out (by omega) 0 (fullL 1) (by rw [fullL_len]; omega)).mono ?_
        rintro e w7 ⟨rfl, hd7⟩
        rw [show DevD.wrE _ 0 (fullL 1) = 0 from HOP.out.1]
        have HD7 := Lib.hid hd7
        clear hd7
        go_wp2_with fail
        refine (flush_s HD7.out).mono ?_
        rintro e w8 ⟨rfl, hd8⟩
        rw [show DevD.flE (DevD.wr _ 0 (fullL 1)) = 0 from HOP.out.2]
        have HB8 := Lib.hid hd8.base
        clear hd8
        go_wp2_with fail
        go_ret
        exact ⟨rfl, HB8.out⟩
      · rw [if_pos (by omega)] at hfE
        have HFE := Lib.hid hfE
        have hmn : min f k = f := by omega
        have hmi : min (f : Int) (k : Int) = f := by omega
        have hkf : decide (f < f) = false := decide_eq_false (Nat.lt_irrefl f)
        rw [hmn]
        clear hfE hmn hlt
        go_wp2_with fail
        refine (flush_s HDK.out).mono ?_
        rintro e w4 ⟨rfl, hd4⟩
        rw [HFE.out]
        have HD4 := Lib.hid hd4
        clear hd4
        go_wp2_with fail
        refine (crash_s HD4.out (by omega) (keep_none _ _)).mono ?_
        rintro e w5 ⟨rfl, hd5⟩
        have HD5 := Lib.hid hd5
        clear hd5
        go_wp2_with fail
        refine (HF1.out _).mono ?_
        rintro e w6 ⟨rfl, hb6⟩
        have HD6 := Lib.hid (HD5.out.below hb6)
        clear hb6
        go_wp2_with fail
        refine (write_s HD6.out (by omega) 0 (fullL 1) (by rw [fullL_len]; omega)).mono ?_
        rintro e w7 ⟨rfl, hd7⟩
        rw [show DevD.wrE _ 0 (fullL 1) = 0 from HOP.out.1]
        have HD7 := Lib.hid hd7
        clear hd7
        go_wp2_with fail
        refine (flush_s HD7.out).mono ?_
        rintro e w8 ⟨rfl, hd8⟩
        rw [show DevD.flE (DevD.wr _ 0 (fullL 1)) = 0 from HOP.out.2]
        have HB8 := Lib.hid hd8.base
        clear hd8
        go_wp2_with fail
        go_ret
        exact ⟨rfl, HB8.out⟩
end Go.Proofs.Ytkaijdnaheikeaa
