/-
  A device, and what it keeps from call to call; the document's examples (awake).
-/
import Derived.Test.YtkaijdnaheikeaaDev9
namespace Go.Proofs.Ytkaijdnaheikeaa
set_option linter.unusedVariables false
set_option linter.unusedSimpArgs false
open Go.RowKit

namespace DevD
theorem wrE_ok {d : DevD} {a : Int} {s : List UInt8} (h : d.wrE a s = 0) : d.mayE a = 0 ∧ s.length = 64 ∧ d.fuse ≠ 0 := by
  unfold wrE at h
  by_cases e : d.mayE a = 0
  · rw [if_neg (by simpa using e)] at h
    split at h
    · omega
    · split at h
      · omega
      · exact ⟨e, by omega, by omega⟩
  · rw [if_pos e] at h; exact absurd h e
theorem Ok.burn {d : DevD} (h : d.Ok) : d.burn.Ok := ⟨h.pos, h.few, h.med, h.cac, h.inn, by have := h.f1; show -1 ≤ max (d.fuse - 1) (-1); omega, by have := h.f2; show max (d.fuse - 1) (-1) ≤ _; omega⟩
theorem Ok.put {d : DevD} (h : d.Ok) {k : Nat} (hk : k < d.med.length) {s : List UInt8} (hs : s.length = 64) : (d.put k s).Ok := by
  refine ⟨h.pos, h.few, h.med, fun j t ht => ?_, fun j hj => ?_, h.f1, h.f2⟩
  · simp only [DevD.put] at ht
    split at ht
    · rcases List.mem_append.1 ht with ht | ht
      · exact h.cac j t ht
      · simp at ht; rw [ht]; exact hs
    · exact h.cac j t ht
  · have hj : d.med.length ≤ j := hj
    show (if j = k then _ else d.cac j) = []
    rw [if_neg (by omega)]; exact h.inn j hj
theorem Ok.wr {d : DevD} (h : d.Ok) (a : Int) (s : List UInt8) : (d.wr a s).Ok := by
  unfold DevD.wr
  split
  · rename_i h0
    have h1 := wrE_ok h0
    have h2 := mayE_ok h1.1
    exact h.burn.put (by show a.toNat < d.med.length; omega) h1.2.1
  · exact h
theorem lastOr_len {l : List (List UInt8)} {s : List UInt8} (h1 : ∀ x ∈ l, x.length = 64) (h2 : s.length = 64) : (lastOr l s).length = 64 := by
  unfold lastOr
  cases h : l.getLast? with
  | none => exact h2
  | some x => exact h1 x (List.mem_of_getLast? h)
theorem Ok.settled {d : DevD} (h : d.Ok) : d.settled.Ok := by
  refine ⟨by simpa [DevD.settled] using h.pos, by simpa [DevD.settled] using h.few, fun s hs => ?_, fun k s hs => by simp [DevD.settled] at hs, fun k _ => rfl, h.f1, h.f2⟩
  simp only [DevD.settled, List.mem_mapIdx] at hs
  obtain ⟨k, hk, rfl⟩ := hs
  exact lastOr_len (h.cac k) (h.med _ (List.getElem_mem hk))
theorem Ok.fl {d : DevD} (h : d.Ok) : d.fl.Ok := by
  unfold DevD.fl
  split
  · exact h.burn.settled
  · exact h
theorem pick_len {keep : List Int} {i : Nat} {l : List (List UInt8)} {s : List UInt8} (h1 : ∀ x ∈ l, x.length = 64) (h2 : s.length = 64) : (pick keep i l s).length = 64 := by
  unfold pick
  split
  · exact h2
  · rename_i x hx
    split
    · rename_i hv
      have hlt : vers x l.length - 1 < l.length := by
        have h3 : (x.tmod (l.length + 1) + l.length + 1).tmod (l.length + 1) < l.length + 1 := Int.tmod_lt_of_pos _ (by omega)
        unfold vers at *
        omega
      rw [List.getD_eq_getElem?_getD, List.getElem?_eq_getElem hlt]
      exact h1 _ (List.getElem_mem hlt)
    · exact h2
theorem Ok.crash {d : DevD} (h : d.Ok) (keep : List Int) : (d.crash keep).Ok := by
  unfold DevD.crash
  split
  · exact h
  · refine ⟨by simpa [crashMed] using h.pos, by simpa [crashMed] using h.few, fun s hs => ?_, fun k s hs => by simp at hs, fun k _ => rfl, by simp, by simp⟩
    simp only [crashMed, List.mem_mapIdx] at hs
    obtain ⟨k, hk, rfl⟩ := hs
    split
    · exact pick_len (h.cac k) (h.med _ (List.getElem_mem hk))
    · exact h.med _ (List.getElem_mem hk)
theorem Ok.fused {d : DevD} (h : d.Ok) {n : Int} (hn : n ≤ 9223372036854775807) : (d.fused n).Ok := ⟨h.pos, h.few, h.med, h.cac, h.inn, by show -1 ≤ max n 0; omega, by show max n 0 ≤ _; omega⟩
theorem Ok.lose {d : DevD} (h : d.Ok) : d.lose.Ok := ⟨h.pos, h.few, h.med, fun k s hs => by simp [DevD.lose] at hs, fun k _ => rfl, h.f1, h.f2⟩
theorem Ok.spoil {d : DevD} (h : d.Ok) (a place : Int) (b : UInt8) : (d.spoil a place b).Ok := by
  unfold DevD.spoil
  split
  · rename_i h0
    have hm : d.mayE a = 0 := by simp only [spoilOk, Bool.and_eq_true, decide_eq_true_eq] at h0; exact h0.1
    have h2 := mayE_ok hm
    have hk : a.toNat < d.med.length := by omega
    have hn : (d.now a.toNat).length = 64 := by
      refine lastOr_len (h.cac _) ?_
      unfold medAt
      rw [List.getD_eq_getElem?_getD, List.getElem?_eq_getElem hk]
      exact h.med _ (List.getElem_mem hk)
    have hf : (flip (d.now a.toNat) (spot place) b).length = 64 := by unfold flip; rw [List.length_set]; exact hn
    generalize flip (d.now a.toNat) (spot place) b = t at *
    unfold spoiled
    split
    · refine ⟨by simpa using h.pos, by simpa using h.few, fun s hs => ?_, h.cac, fun k hk => h.inn k (by simpa using hk), h.f1, h.f2⟩
      rcases List.mem_or_eq_of_mem_set hs with hs | rfl
      · exact h.med s hs
      · exact hf
    · rename_i hne
      refine ⟨h.pos, h.few, h.med, fun k s hs => ?_, fun k hk2 => ?_, h.f1, h.f2⟩
      · simp only at hs
        split at hs
        · rcases List.mem_or_eq_of_mem_set hs with hs | rfl
          · exact h.cac k s hs
          · exact hf
        · exact h.cac k s hs
      · have hk2 : d.med.length ≤ k := hk2
        show (if k = a.toNat then _ else d.cac k) = []
        rw [if_neg (by omega)]; exact h.inn k hk2
  · exact h
theorem put_len (d : DevD) (k : Nat) (s : List UInt8) (j : Nat) : ((d.put k s).cac j).length ≤ (d.cac j).length + 1 := by
  simp only [DevD.put]
  split <;> simp
theorem wr_len (d : DevD) (a : Int) (s : List UInt8) (j : Nat) : ((d.wr a s).cac j).length ≤ (d.cac j).length + 1 := by
  unfold wr
  split
  · exact put_len d.burn _ s j
  · omega
theorem fl_len (d : DevD) (j : Nat) : (d.fl.cac j).length ≤ (d.cac j).length := by
  unfold fl
  split
  · simp [settled]
  · exact Nat.le_refl _
theorem crash_len (d : DevD) (keep : List Int) (j : Nat) : ((d.crash keep).cac j).length ≤ (d.cac j).length := by
  unfold crash
  split
  · exact Nat.le_refl _
  · simp
theorem spoil_len (d : DevD) (a place : Int) (b : UInt8) (j : Nat) : ((d.spoil a place b).cac j).length ≤ (d.cac j).length := by
  unfold spoil
  split
  · unfold spoiled
    split
    · exact Nat.le_refl _
    · show (if j = _ then _ else d.cac j).length ≤ _
      split
      · rename_i e; subst e; simp
      · exact Nat.le_refl _
  · exact Nat.le_refl _
end DevD

/-- A device that was made behind w0, in a world in which what lay before is as it was; N: no sector has more versions. -/
def DevS (w0 w : World) (bd : Nat) (d : DevD) (N : Nat) : Prop := ∃ S : Nat → Prop, DevAt w S bd d ∧ (∀ i, S i → w0.heap.size ≤ i) ∧ Below w0.heap.size w0 w ∧ d.Ok ∧ ∀ k, (d.cac k).length ≤ N
section
variable {w0 w w' : World} {bd N : Nat} {d : DevD}
theorem DevS.base (h : DevS w0 w bd d N) : Below w0.heap.size w0 w := by obtain ⟨S, _, _, h, _⟩ := h; exact h
theorem DevS.ok (h : DevS w0 w bd d N) : d.Ok := by obtain ⟨S, _, _, _, h, _⟩ := h; exact h
theorem DevS.below (h : DevS w0 w bd d N) (hb : Below w.heap.size w w') : DevS w0 w' bd d N := by
  obtain ⟨S, h1, h2, h3, h4, h5⟩ := h
  exact ⟨S, h1.below hb, h2, h3.trans (hb.mono h3.size), h4, h5⟩
theorem DevS.mono (h : DevS w0 w bd d N) {M : Nat} (hM : N ≤ M) : DevS w0 w bd d M := by
  obtain ⟨S, h1, h2, h3, h4, h5⟩ := h
  exact ⟨S, h1, h2, h3, h4, fun k => Nat.le_trans (h5 k) hM⟩
theorem DevS.of {S : Nat → Prop} (h1 : DevAt w' S bd d) (h2 : ∀ i, S i → w0.heap.size ≤ i) (h3 : Below w0.heap.size w0 w) (ho : Only S w w') (h4 : d.Ok) (h5 : ∀ k, (d.cac k).length ≤ N) : DevS w0 w' bd d N :=
  ⟨S, h1, h2, h3.trans (ho.below h3.size h2), h4, h5⟩
theorem new_s (n : Nat) (h1 : 1 ≤ n) (h2 : n ≤ 4096) (hb : Below w0.heap.size w0 w) : Calls Try.prog 11 #[.int .i64 n] w fun e w' => ∃ bd, e = .returned (.tuple #[.pointer (some ⟨bd, 0, none⟩), .int .i64 0]) ∧ DevS w0 w' bd (DevD.blank n 0) 0 :=
  (new_any n w h1 h2).mono fun e w' ⟨bd, he, hd, hb'⟩ => ⟨bd, he, _, hd, fun i hi => Nat.le_trans hb.size hi.1, hb.trans (hb'.mono hb.size), blank_ok h1 h2, fun k => by simp [DevD.blank]⟩
theorem write_s (h : DevS w0 w bd d N) (hN : N ≤ 1000000) (a : Int) (s : List UInt8) (hs : s.length ≤ 9223372036854775807) : Calls Try.prog 12 #[.pointer (some ⟨bd, 0, none⟩), .int .i64 a, str s] w fun e w' =>
    e = .returned (.int .i64 (d.wrE a s)) ∧ DevS w0 w' bd (d.wr a s) (N + 1) := by
  obtain ⟨S, h1, h2, h3, h4, h5⟩ := h
  refine (write_any h1 a s h4 (fun k => Nat.le_trans (h5 k) hN) hs).mono fun e w' ⟨he, hd, ho⟩ => ⟨he, _, hd, fun i hi => ?_, h3.trans (ho.below h3.size h2), h4.wr a s, fun k => Nat.le_trans (DevD.wr_len d a s k) (Nat.succ_le_succ (h5 k))⟩
  rcases hi with hi | hi
  · exact h2 i hi
  · exact Nat.le_trans h3.size hi.1
theorem read_s (h : DevS w0 w bd d N) (a : Int) : Calls Try.prog 15 #[.pointer (some ⟨bd, 0, none⟩), .int .i64 a] w fun e w' => e = .returned (.tuple #[str (d.rdS a), .int .i64 (d.mayE a)]) ∧ w = w' := by
  obtain ⟨S, h1, h2, h3, h4, h5⟩ := h
  exact read_any h1 a h4.few
theorem flush_s (h : DevS w0 w bd d N) : Calls Try.prog 14 #[.pointer (some ⟨bd, 0, none⟩)] w fun e w' => e = .returned (.int .i64 d.flE) ∧ DevS w0 w' bd d.fl N := by
  obtain ⟨S, h1, h2, h3, h4, h5⟩ := h
  exact (flush_any h1 h4).mono fun e w' ⟨he, hd, ho⟩ => ⟨he, .of hd h2 h3 ho h4.fl fun k => Nat.le_trans (DevD.fl_len d k) (h5 k)⟩
theorem crash_s (h : DevS w0 w bd d N) (hN : N ≤ 1000000) {kv : Value} {keep : List Int} (hk : KeepAt w (fun i => w0.heap.size ≤ i) kv keep) : Calls Try.prog 16 #[.pointer (some ⟨bd, 0, none⟩), kv] w fun e w' =>
    e = .returned (.tuple #[]) ∧ DevS w0 w' bd (d.crash keep) N := by
  obtain ⟨S, h1, h2, h3, h4, h5⟩ := h
  have hk' : KeepAt w S kv keep := by
    obtain ⟨A, c, k1, k2, k3, k4⟩ := hk
    refine ⟨A, c, k1, k2, k3, fun hp => ?_⟩
    obtain ⟨b, o, e1, e2, e3⟩ := k4 hp
    exact ⟨b, o, e1, fun hS => e2 (h2 b hS), e3⟩
  exact (crash_any h1 h4 (fun k => Nat.le_trans (h5 k) hN) hk').mono fun e w' ⟨he, hd, ho⟩ => ⟨he, .of hd h2 h3 ho (h4.crash keep) fun k => Nat.le_trans (DevD.crash_len d keep k) (h5 k)⟩
theorem fuse_s (h : DevS w0 w bd d N) (n : Int) (hn : n ≤ 9223372036854775807) : Calls Try.prog 18 #[.pointer (some ⟨bd, 0, none⟩), .int .i64 n] w fun e w' => e = .returned (.tuple #[]) ∧ DevS w0 w' bd (d.fused n) N := by
  obtain ⟨S, h1, h2, h3, h4, h5⟩ := h
  exact (fuse_any h1 n).mono fun e w' ⟨he, hd, ho, _⟩ => ⟨he, .of hd h2 h3 ho (h4.fused hn) h5⟩
theorem lose_s (h : DevS w0 w bd d N) : Calls Try.prog 20 #[.pointer (some ⟨bd, 0, none⟩)] w fun e w' => e = .returned (.tuple #[]) ∧ DevS w0 w' bd d.lose N := by
  obtain ⟨S, h1, h2, h3, h4, h5⟩ := h
  exact (lose_any h1).mono fun e w' ⟨he, hd, ho, _⟩ => ⟨he, .of hd h2 h3 ho h4.lose fun k => by simp [DevD.lose]⟩
theorem fresh_s (h : DevS w0 w bd d N) (b : UInt8) : Calls Try.prog 21 #[.pointer (some ⟨bd, 0, none⟩), .int .u8 b.toNat] w fun e w' => e = .returned (.tuple #[]) ∧ DevS w0 w' bd (DevD.blank d.med.length b) 0 := by
  obtain ⟨S, h1, h2, h3, h4, h5⟩ := h
  refine (fresh_any h1 b h4).mono fun e w' ⟨he, hd, ho⟩ => ⟨he, _, hd, fun i hi => ?_, h3.trans (ho.below h3.size h2), blank_ok h4.pos h4.few, fun k => by simp [DevD.blank]⟩
  rcases hi with hi | hi
  · exact h2 i hi
  · exact Nat.le_trans h3.size hi.1
theorem spoil_s (h : DevS w0 w bd d N) (hN : N ≤ 1000000) (a place : Int) (hp : -9223372036854775808 ≤ place ∧ place ≤ 9223372036854775807) (b : UInt8) : Calls Try.prog 19 #[.pointer (some ⟨bd, 0, none⟩), .int .i64 a, .int .i64 place, .int .u8 b.toNat] w fun e w' =>
    e = .returned (.bool (d.spoilOk a b)) ∧ DevS w0 w' bd (d.spoil a place b) N := by
  obtain ⟨S, h1, h2, h3, h4, h5⟩ := h
  cases h0 : d.spoilOk a b with
  | false =>
    have hd : d.spoil a place b = d := by unfold DevD.spoil; rw [h0]; rfl
    rw [hd]
    exact (spoil_no h1 a place b h4.few h0).mono fun e w' ⟨he, hw⟩ => ⟨he, by subst hw; exact ⟨S, h1, h2, h3, h4, h5⟩⟩
  | true =>
    have hm : d.mayE a = 0 := by simp only [DevD.spoilOk, Bool.and_eq_true, decide_eq_true_eq] at h0; exact h0.1
    have h2' := DevD.mayE_ok hm
    obtain ⟨k, rfl⟩ := Int.eq_ofNat_of_zero_le h2'.1
    have hd : d.spoil k place b = d.spoiled k (DevD.flip (d.now k) (DevD.spot place) b) := by unfold DevD.spoil; rw [h0]; rfl
    have hok := h4.spoil k place b
    have hl := DevD.spoil_len d k place b
    rw [hd] at hok hl ⊢
    exact (spoil_yes h1 k place hp b h4 (fun k => Nat.le_trans (h5 k) hN) h0).mono fun e w' ⟨he, hd, ho⟩ => ⟨he, .of hd h2 h3 ho hok fun k => Nat.le_trans (hl k) (h5 k)⟩
theorem lost_s (h : DevS w0 w bd d N) : Calls Try.prog 22 #[.pointer (some ⟨bd, 0, none⟩)] w fun e w' => e = .returned (.bool d.lost) ∧ w = w' := by
  obtain ⟨S, h1, h2, h3, h4, h5⟩ := h
  exact lost_any h1
theorem secs_s (h : DevS w0 w bd d N) : Calls Try.prog 23 #[.pointer (some ⟨bd, 0, none⟩)] w fun e w' => e = .returned (.int .i64 d.med.length) ∧ w = w' := by
  obtain ⟨S, h1, h2, h3, h4, h5⟩ := h
  exact secs_any h1
theorem cached_s (h : DevS w0 w bd d N) : Calls Try.prog 17 #[.pointer (some ⟨bd, 0, none⟩)] w fun e w' => ∃ A c, e = .returned (.slice A d.keys.length c) ∧ Below w.heap.size w w' := by
  obtain ⟨S, h1, h2, h3, h4, h5⟩ := h
  refine (cached_any h1 h4.few).mono fun e w' ⟨v, he, hr, hb⟩ => ?_
  rcases hr.2 with ⟨rfl, h0⟩ | ⟨b, cap, cur, rfl, _⟩
  · exact ⟨none, 0, by rw [he, h0], hb⟩
  · exact ⟨_, _, he, hb⟩
end
theorem keep_none (w : World) (S : Nat → Prop) : KeepAt w S (.slice none 0 0) [] := keepAt_nil w S

theorem awake_d1 : (((DevD.blank 2 0).wr 1 (fullL 97)).crash []).rdS 1 = fullL 0 := by kernel_rfl
theorem awake_d2 : ((((((DevD.blank 2 0).wr 1 (fullL 97)).crash []).wr 1 (fullL 98)).fl).crash []).rdS 1 = fullL 98 := by kernel_rfl
theorem awake_any (w : World) : Calls Try.prog 9 #[] w fun e w' => e = .returned (.bool true) ∧ Below w.heap.size w w' := by
  have HF0 : Hid (∀ W, Calls Try.prog 13 #[.int .u8 0] W fun e w' => e = .returned (str (fullL 0)) ∧ Below W.heap.size W w') := Lib.hid (fun W => rfull_any 0 W)
  have HF97 : Hid (∀ W, Calls Try.prog 13 #[.int .u8 97] W fun e w' => e = .returned (str (fullL 97)) ∧ Below W.heap.size W w') := Lib.hid (fun W => rfull_any 97 W)
  have HF98 : Hid (∀ W, Calls Try.prog 13 #[.int .u8 98] W fun e w' => e = .returned (str (fullL 98)) ∧ Below W.heap.size W w') := Lib.hid (fun W => rfull_any 98 W)
  go_enter Try.func9, Try.ntmps9
  go_wp2_with fail
  refine (new_s (w0 := w) 2 (by omega) (by omega) (Below.refl _ _)).mono ?_
  rintro e w1 ⟨bd, rfl, hd1⟩
  have HD1 := Lib.hid hd1
  clear hd1
  go_wp2_with fail
  refine (HF97.out _).mono ?_
  rintro e w2 ⟨rfl, hb2⟩
  have HD2 := Lib.hid (HD1.out.below hb2)
  clear hb2
  go_wp2_with fail
  refine (write_s HD2.out (by omega) 1 (fullL 97) (by rw [fullL_len]; omega)).mono ?_
  rintro e w3 ⟨rfl, hd3⟩
  have HD3 := Lib.hid hd3
  clear hd3
  go_wp2_with fail
  refine (crash_s HD3.out (by omega) (keep_none _ _)).mono ?_
  rintro e w4 ⟨rfl, hd4⟩
  have HD4 := Lib.hid hd4
  clear hd4
  go_wp2_with fail
  refine (read_s HD4.out 1).mono ?_
  rintro e w4' ⟨rfl, rfl⟩
  rw [awake_d1]
  go_wp2_with fail
  refine (HF98.out _).mono ?_
  rintro e w5 ⟨rfl, hb5⟩
  have HD5 := Lib.hid (HD4.out.below hb5)
  clear hb5
  go_wp2_with fail
  refine (write_s HD5.out (by omega) 1 (fullL 98) (by rw [fullL_len]; omega)).mono ?_
  rintro e w6 ⟨rfl, hd6⟩
  have HD6 := Lib.hid hd6
  clear hd6
  go_wp2_with fail
  refine (flush_s HD6.out).mono ?_
  rintro e w7 ⟨rfl, hd7⟩
  have HD7 := Lib.hid hd7
  clear hd7
  go_wp2_with fail
  refine (crash_s HD7.out (by omega) (keep_none _ _)).mono ?_
  rintro e w8 ⟨rfl, hd8⟩
  have HD8 := Lib.hid hd8
  clear hd8
  go_wp2_with fail
  refine (read_s HD8.out 1).mono ?_
  rintro e w8' ⟨rfl, rfl⟩
  rw [awake_d2]
  go_wp2_with fail
  refine (HF0.out _).mono ?_
  rintro e w9 ⟨rfl, hb9⟩
  have HB9 := Lib.hid (HD8.out.below hb9).base
  clear hb9
  go_wp2_with fail
  refine (HF98.out _).mono ?_
  rintro e w10 ⟨rfl, hb10⟩
  have HB10 := Lib.hid (keep_below hb10 HB9.out)
  clear hb10
  go_wp2_with fail
  go_ret
  exact ⟨rfl, HB10.out⟩
end Go.Proofs.Ytkaijdnaheikeaa
