/-
  The walk of DevVersions.
-/
import Derived.Test.YtkaijdnaheikeaaDevW
import Derived.Test.YtkaijdnaheikeaaLawV
namespace Go.Proofs.Ytkaijdnaheikeaa
set_option linter.unusedVariables false
set_option linter.unusedSimpArgs false
open Go.RowKit

theorem fullL_inj {a b : UInt8} (h : fullL a = fullL b) : a = b := by
  have : (fullL a)[0]? = (fullL b)[0]? := by rw [h]
  simpa [fullL] using this
namespace DevD
/-- One sector, written so often. -/
structure Ver (d : DevD) (l : List UInt8) : Prop where
  lost : d.lost = false
  med : d.med = [fullL 0]
  fuse : d.fuse = -1
  cac : d.cac 0 = l.map fullL
theorem Ver.may {d : DevD} {l : List UInt8} (h : d.Ver l) : d.mayE 0 = 0 := by
  unfold mayE
  rw [h.lost, h.med]; rfl
theorem Ver.wrE {d : DevD} {l : List UInt8} (h : d.Ver l) (b : UInt8) : d.wrE 0 (fullL b) = 0 := by
  unfold DevD.wrE
  rw [h.may, fullL_len, h.fuse]; rfl
theorem Ver.wr {d : DevD} {l : List UInt8} (h : d.Ver l) (b : UInt8) : (d.wr 0 (fullL b)).Ver (l ++ [b]) := by
  unfold DevD.wr
  rw [if_pos (h.wrE b)]
  exact ⟨h.lost, h.med, by show max (d.fuse - 1) (-1) = _; rw [h.fuse]; rfl, by show (d.burn.put 0 (fullL b)).cac 0 = _; simp [DevD.put, DevD.burn, h.cac]⟩
theorem Ver.crash {d : DevD} {l : List UInt8} (h : d.Ver l) (keep : Int) : ∃ b, (b = 0 ∨ b ∈ l) ∧ (d.crash [keep]).rdS 0 = fullL b ∧ (d.crash [keep]).mayE 0 = 0 := by
  have hm : ∃ b, (b = 0 ∨ b ∈ l) ∧ d.crashMed [keep] 1 = [fullL b] := by
    by_cases e : l = []
    · refine ⟨0, .inl rfl, ?_⟩
      unfold crashMed
      rw [h.med]
      simp [h.cac, e]
    · have hp : ∃ b, (b = 0 ∨ b ∈ l) ∧ pick [keep] 0 (d.cac 0) (fullL 0) = fullL b := by
        unfold pick
        simp only [List.getElem?_cons_zero]
        split
        · rename_i hv
          have hlt : vers keep (d.cac 0).length - 1 < (d.cac 0).length := by
            have h3 : (keep.tmod ((d.cac 0).length + 1) + (d.cac 0).length + 1).tmod ((d.cac 0).length + 1) < (d.cac 0).length + 1 := Int.tmod_lt_of_pos _ (by omega)
            unfold vers at *
            omega
          rw [h.cac] at hlt ⊢
          rw [List.getD_eq_getElem?_getD, List.getElem?_eq_getElem hlt]
          simp only [List.getElem_map]
          exact ⟨_, .inr (List.getElem_mem _), rfl⟩
        · exact ⟨0, .inl rfl, rfl⟩
      obtain ⟨b, hb, hp⟩ := hp
      refine ⟨b, hb, ?_⟩
      unfold crashMed
      rw [h.med]
      have hr : d.rank 0 = 0 := by simp [rank]
      have he : (d.cac 0).isEmpty = false := by rw [h.cac]; simpa using e
      simp only [List.mapIdx_cons, List.mapIdx_nil, hr, he]
      simpa using hp
  obtain ⟨b, hb, hm⟩ := hm
  have hl : d.med.length = 1 := by rw [h.med]; rfl
  have hc : d.crash [keep] = { d with med := [fullL b], cac := fun _ => [], fuse := -1 } := by
    unfold DevD.crash
    rw [if_neg (by simp [h.lost]), hl, hm]
  refine ⟨b, hb, ?_, ?_⟩
  · rw [hc]
    unfold rdS mayE
    simp [h.lost, now, medAt, lastOr]
  · rw [hc]
    unfold mayE
    simp [h.lost]
end DevD
theorem crash_new {w0 w : World} {bd N : Nat} {d : DevD} (h : DevS w0 w bd d N) (hN : N ≤ 1000000) (x : Int) (hx : -9223372036854775808 ≤ x ∧ x ≤ 9223372036854775807) (t : TypeId) :
    Calls Try.prog 16 #[.pointer (some ⟨bd, 0, none⟩), .slice (some ⟨w.heap.size, 0, none⟩) 1 1] (w.alloc (.cells #[.int .i64 x] t)) fun e w' => e = .returned (.tuple #[]) ∧ DevS w0 w' bd (d.crash [x]) N := by
  obtain ⟨S, h1, h2, h3, h4, h5⟩ := h
  have hk : KeepAt (w.alloc (.cells #[.int .i64 x] t)) S (.slice (some ⟨w.heap.size, 0, none⟩) 1 1) [x] := by
    refine ⟨_, _, rfl, fun y hy => ?_, by simp, fun _ => ⟨w.heap.size, 0, rfl, fun hS => Nat.lt_irrefl _ (h1.lts _ hS), by simp, fun i y hy => ?_⟩⟩
    · simp at hy; rw [hy]; exact hx
    · match i, hy with
      | 0, hy => simp at hy; subst hy; exact one_new w _ t 0 _ rfl
  have ho : Only S w (w.alloc (.cells #[.int .i64 x] t)) := (Only.refl _ _).alloc _
  exact (crash_any (h1.alloc _) h4 (fun k => Nat.le_trans (h5 k) hN) hk).mono fun e w' ⟨he, hd, ho'⟩ => ⟨he, .of hd h2 h3 (ho.trans ho' (fun _ h => .inl h)) (h4.crash [x]) fun k => Nat.le_trans (DevD.crash_len d [x] k) (h5 k)⟩

set_option maxRecDepth 20000 in
theorem devVersions_any (fv : Value) (l : List UInt8) (keep : Int) (w : World) (hf : ByteArg w fv l) (hk : -9223372036854775808 ≤ keep ∧ keep ≤ 9223372036854775807) : Calls Try.prog 4 #[fv, .int .i64 keep] w fun e w' => e = .returned (.bool true) ∧ Below w.heap.size w w' := by
  have HA := Lib.hid (fun W => awake_any W)
  have HF0 : Hid (∀ W, Calls Try.prog 13 #[.int .u8 0] W fun e w' => e = .returned (str (fullL 0)) ∧ Below W.heap.size W w') := Lib.hid (fun W => rfull_any 0 W)
  have HFA := Lib.hid (fun b W => rfull_any b W)
  have HARG := Lib.hid hf
  obtain ⟨A, c, rfl, hl, _⟩ := hf
  by_cases hl80 : 80 < l.length
  · go_enter Try.func4, Try.ntmps4
    go_wp2_with fail
    refine (HA.out _).mono ?_
    rintro e w1 ⟨rfl, hb1⟩
    have HB1 := Lib.hid hb1
    clear hb1
    have hd80 : decide (80 < l.length) = true := decide_eq_true hl80
    go_wp2_with fail
    refine (HA.out _).mono ?_
    rintro e w2 ⟨rfl, hb2⟩
    have HB2 := Lib.hid (keep_below hb2 HB1.out)
    clear hb2
    go_wp2_with fail
    go_ret
    exact ⟨rfl, HB2.out⟩
  have hd80 : decide (80 < l.length) = false := decide_eq_false hl80
  have HK := Lib.hid hk
  clear hk
  go_enter Try.func4, Try.ntmps4
  go_wp2_with fail
  refine (HA.out _).mono ?_
  rintro e w1 ⟨rfl, hb1⟩
  have HB1 := Lib.hid hb1
  clear hb1
  go_wp2_with fail
  refine (new_s (w0 := w) 1 (by omega) (by omega) HB1.out).mono ?_
  rintro e w2 ⟨bd, rfl, hd⟩
  have HD := Lib.hid hd
  have HV0 : Hid ((DevD.blank 1 0).Ver []) := Lib.hid ⟨rfl, rfl, rfl, rfl⟩
  clear hd
  go_wp2_with fail
  go_loopw [7] (fun i wr => ∃ (k : Nat) (d : DevD), k ≤ l.length ∧ i = .int .i64 k ∧ DevS w wr bd d k ∧ d.Ver (l.take k)) (fun i _ => l.length - (intOf i).toNat)
  case atStart => exact ⟨0, _, Nat.zero_le _, rfl, HD.out, HV0.out⟩
  case round =>
    obtain ⟨k, d, hk, rfl, hd, hv⟩ := hrel
    have HDK := Lib.hid hd
    have HVK := Lib.hid hv
    clear hd hv
    by_cases hlt : k < l.length
    · have harg := HARG.out.below HDK.out.base
      obtain ⟨A', c', he, _, hcell⟩ := harg
      cases he
      obtain ⟨b, o, rfl, _, hcell⟩ := hcell (by omega)
      obtain ⟨u, hu⟩ : ∃ u, l[k]? = some u := ⟨_, List.getElem?_eq_getElem hlt⟩
      have hc := hcell k u hu
      have HW := Lib.hid (HVK.out.wrE u)
      have HVN := HVK.out.wr u
      have ht : l.take k ++ [u] = l.take (k + 1) := by rw [List.take_add_one, hu]; rfl
      rw [ht] at HVN
      have HVN := Lib.hid HVN
      have HLT := Lib.hid hlt
      have hdc : decide (k < l.length) = true := decide_eq_true hlt
      clear hcell ht hu hlt
      go_wp2_with fail
      refine (HFA.out u _).mono ?_
      rintro e w4 ⟨rfl, hb4⟩
      have HD4 := Lib.hid (HDK.out.below hb4)
      clear hb4
      go_wp2_with fail
      refine (write_s HD4.out (by omega) 0 (fullL u) (by rw [fullL_len]; omega)).mono ?_
      rintro e w5 ⟨rfl, hd5⟩
      rw [HW.out]
      have HD5 := Lib.hid hd5
      clear hd5
      go_wp2_with fail
      go_roundw
      case rel => exact ⟨k + 1, _, HLT.out, by go_num, HD5.out, HVN.out⟩
      case measure => have := HLT.out; simp [intOf]; omega
    · obtain rfl : k = l.length := by omega
      have hdc : decide (l.length < l.length) = false := decide_eq_false (Nat.lt_irrefl _)
      have hv := HVK.out
      rw [List.take_length] at hv
      obtain ⟨b, hb, hrd, hmy⟩ := hv.crash keep
      have HB := Lib.hid hb
      have HRD := Lib.hid hrd
      have HMY := Lib.hid hmy
      clear hv hb hrd hmy hk hlt
      go_wp2_with fail
      refine (crash_new HDK.out (by omega) keep HK.out _).mono ?_
      rintro e w4 ⟨rfl, hd4⟩
      have HD4 := Lib.hid hd4
      clear hd4
      go_wp2_with fail
      refine (read_s HD4.out 0).mono ?_
      rintro e w4' ⟨rfl, rfl⟩
      rw [HRD.out, HMY.out]
      go_wp2_with fail
      refine (HF0.out _).mono ?_
      rintro e w5 ⟨rfl, hb5⟩
      have HD5 := Lib.hid (HD4.out.below hb5)
      clear hb5
      go_wp2_with fail
      have hst : (b = 0 ∨ b ∈ l.take 0) → (fullL b == fullL 0) = true := by
        rintro (rfl | h)
        · exact beq_self_eq_true _
        · simp at h
      generalize (fullL b == fullL 0) = fb0 at *
      have HST := Lib.hid hst
      clear hst
      go_loopw [10, 11] (fun f i wr => ∃ (k : Nat) (fb : Bool), k ≤ l.length ∧ i = .int .i64 k ∧ f = .bool fb ∧ ((b = 0 ∨ b ∈ l.take k) → fb = true) ∧ Below w.heap.size w wr) (fun _ i _ => l.length - (intOf i).toNat)
      case atStart => exact ⟨0, _, Nat.zero_le _, rfl, rfl, HST.out, HD5.out.base⟩
      case round =>
        obtain ⟨k, fb, hk, rfl, rfl, himp, hbw⟩ := hrel
        by_cases hlt : k < l.length
        · have harg := HARG.out.below hbw
          obtain ⟨A', c', he, _, hcell⟩ := harg
          cases he
          obtain ⟨bb, o, rfl, _, hcell⟩ := hcell (by omega)
          obtain ⟨u, hu⟩ : ∃ u, l[k]? = some u := ⟨_, List.getElem?_eq_getElem hlt⟩
          have hc := hcell k u hu
          have ht : l.take (k + 1) = l.take k ++ [u] := by rw [List.take_add_one, hu]; rfl
          have HT := Lib.hid ht
          have HIMP := Lib.hid himp
          have HBW := Lib.hid hbw
          have HLT := Lib.hid hlt
          have hdc : decide (k < l.length) = true := decide_eq_true hlt
          clear hcell ht hu hlt himp hbw
          cases fb with
          | true =>
            go_wp2_with fail
            go_roundw
            case rel => exact ⟨k + 1, true, HLT.out, by go_num, rfl, fun _ => rfl, HBW.out⟩
            case measure => have := HLT.out; simp [intOf]; omega
          | false =>
            go_wp2_with fail
            refine (HFA.out u _).mono ?_
            rintro e w6 ⟨rfl, hb6⟩
            have HB6 := Lib.hid (keep_below hb6 HBW.out)
            clear hb6
            go_wp2_with fail
            go_roundw
            case rel =>
              refine ⟨k + 1, (fullL b == fullL u), HLT.out, by go_num, rfl, fun h => ?_, HB6.out⟩
              rw [HT.out] at h
              rcases h with h | h
              · have := HIMP.out (.inl h); cases this
              · rcases List.mem_append.1 h with h | h
                · have := HIMP.out (.inr h); cases this
                · simp at h; rw [h]; exact beq_self_eq_true _
            case measure => have := HLT.out; simp [intOf]; omega
        · obtain rfl : k = l.length := by omega
          have hfb : fb = true := himp (by rw [List.take_length]; exact HB.out)
          subst hfb
          have HBW := Lib.hid hbw
          clear hbw himp hlt hk
          go_wp2_with fail
          go_ret
          exact ⟨rfl, HBW.out⟩
end Go.Proofs.Ytkaijdnaheikeaa
