/-
  The walk of NodeTexts.
-/
import Derived.Test.YtkmmehhddagijaaDoorNodeRe
namespace Go.Proofs.YtkmmehhddagijaaDoor
set_option linter.unusedVariables false
set_option linter.unusedSimpArgs false
open Go.RowKit

theorem data_text {s : List UInt8} (hm : s.length % 64 = 0) (hb : s.length ≤ 256) : textL s = s := by
  unfold textL padL
  rw [if_neg (by omega), if_pos (by decide)]
  have : padN s.length (64 : Int).toNat = 0 := by unfold padN; show (64 - s.length % 64) % 64 = 0; omega
  rw [this]; simp
theorem idx_text {s : List UInt8} (hl : s.length = 256) (h : okTo s 4 = true) : itL (readP ((s.drop 0).take 64)) (readP ((s.drop 64).take 64)) (readP ((s.drop 128).take 64)) (readP ((s.drop 192).take 64)) = s := by
  simp only [okTo, Bool.and_eq_true, beq_iff_eq] at h
  unfold itL
  rw [readP_lay, readP_lay, readP_lay, readP_lay, if_pos (by decide)]
  simp only [itTo]
  rw [read_back h.1.1.1, read_back h.1.1.2, read_back h.1.2, read_back h.2, List.nil_append]
  have a3 : (s.drop 192).take 64 = s.drop 192 := List.take_of_length_le (by rw [List.length_drop]; omega)
  rw [List.append_assoc, List.append_assoc, a3, cutJoin s 128 64, cutJoin s 64 64, cutJoin s 0 64, List.drop_zero]

/-- What is read, is nothing, data, or pointers. -/
theorem nr_cases (s : List UInt8) (lv : Int) : (nrE s lv ≠ 0 ∧ nrV s lv = .nilIface) ∨ (nrE s lv = 0 ∧ nrV s lv = .iface 39 (.agg #[str s]) ∧ textL s = s) ∨
    (nrE s lv = 0 ∧ ∃ p q r t : PtrD, nrV s lv = .iface 43 (.agg (ptrs4 p q r t)) ∧ p.Ok ∧ q.Ok ∧ r.Ok ∧ t.Ok ∧ itL p q r t = s) := by
  by_cases h1 : lv < 0 ∨ 3 < lv
  · have := nr_1 (s := s) h1; exact .inl ⟨by omega, this.1⟩
  · by_cases hb : nrBad s lv
    · have := nr_3 h1 hb; exact .inl ⟨by omega, this.1⟩
    · have hb' := hb
      unfold nrBad at hb'
      simp only [not_or] at hb'
      obtain ⟨h2, h3, h4, h5⟩ := hb'
      by_cases hp : 0 < lv
      · have hl : s.length = 256 := by
          by_cases h : s.length = 256
          · exact h
          · exact absurd ⟨hp, h⟩ h5
        have hi := nr_i h1 hb hp
        by_cases ho : okTo s 4 = true
        · have he : idxE s = 0 := by
            simp only [okTo, Bool.and_eq_true, beq_iff_eq] at ho
            unfold idxE
            rw [ho.1.1.1, if_neg (by simp), ho.1.1.2, if_neg (by simp), ho.1.2, if_neg (by simp), ho.2]
          refine .inr (.inr ⟨by rw [hi.2, he], _, _, _, _, ?_, readP_ok _, readP_ok _, readP_ok _, readP_ok _, idx_text hl ho⟩)
          rw [hi.1]; unfold idxV; rw [if_pos ho]; rfl
        · have hv : idxV s = .nilIface := by unfold idxV; rw [if_neg ho]
          refine .inl ⟨?_, by rw [hi.1, hv]⟩
          rw [hi.2]
          intro he
          apply ho
          unfold idxE at he
          simp only [okTo, Bool.and_eq_true, beq_iff_eq]
          split at he
          · exact absurd he ‹_›
          · split at he
            · exact absurd he ‹_›
            · split at he
              · exact absurd he ‹_›
              · rename_i a b c
                exact ⟨⟨⟨by simpa using a, by simpa using b⟩, by simpa using c⟩, he⟩
      · have hd := nr_d h1 hb hp
        exact .inr (.inl ⟨hd.2, hd.1, data_text (by omega) (by omega)⟩)

set_option maxRecDepth 100000 in
set_option maxHeartbeats 4000000 in
theorem textsLaw_any (s : List UInt8) (lv : Nat) (w : World) (h8 : lv ≤ 255) (hl : s.length ≤ 9223372036854775807) :
    Calls Tryd.prog 3 #[str s, .int .u8 lv] w fun e w' => e = .returned (.bool true) ∧ Below w.heap.size w w' := by
  have hwl : IntKind.i64.wrap (lv : Int) = lv := IntWalk.i64_in (lv : Int) (by omega)
  go_enter Tryd.func3, Tryd.ntmps3
  go_wp2_with fail
  refine (awake13_any _).mono ?_
  rintro e w1 ⟨rfl, hb1⟩
  by_cases hn : 1000 < s.length
  · go_wp2_with fail
    refine (awake13_any _).mono ?_
    rintro e w2 ⟨rfl, hb2⟩
    go_wp2_with fail
    go_ret
    exact ⟨rfl, keep_below hb2 hb1⟩
  · have HR : Hid (∀ W, Calls Tryd.prog 7 #[str s, .int .i64 ((lv : Int) % 4)] W fun e w' => e = .returned (.tuple #[nrV s ((lv : Int) % 4), .int .i64 (nrE s ((lv : Int) % 4))]) ∧ Below W.heap.size W w') := Lib.hid fun W => nread_any s ((lv : Int) % 4) W hl
    have hc := nr_cases s ((lv : Int) % 4)
    generalize nrV s ((lv : Int) % 4) = V at *
    generalize nrE s ((lv : Int) % 4) = E at *
    have hqn : ∀ W, (binOp .eql 24 .nilIface .nilIface).run Tryd.prog W = .ok (.bool true) W := fun W => by kernel_rfl
    rcases hc with ⟨he, rfl⟩ | ⟨rfl, rfl, ht⟩ | ⟨rfl, p, q, r, t, rfl, o1, o2, o3, o4, ht⟩
    · have hne : (E != 0) = true := by simpa using he
      go_wp2_with fail
      refine (HR.out _).mono ?_
      rintro e w2 ⟨rfl, hb2⟩
      go_wp2_with fail
      go_ret
      exact ⟨rfl, keep_below hb2 hb1⟩
    · have HT : Hid (∀ W, Calls Tryd.prog 8 #[.agg #[str s]] W fun e w' => e = .returned (str s) ∧ Below W.heap.size W w') := Lib.hid fun W => by
        have := dText_any s W hl; rw [ht] at this; exact this
      clear ht
      go_wp2_with fail
      refine (HR.out _).mono ?_
      rintro e w2 ⟨rfl, hb2⟩
      have hd2 := keep_below hb2 hb1
      have hmd : ∀ W : World, (method 237 39 (.agg #[str s]) "Text").run Tryd.prog W = .ok (8, .agg #[str s]) W := fun _ => by kernel_rfl
      go_wp2_with fail
      refine (HT.out _).mono ?_
      rintro e w3 ⟨rfl, hb3⟩
      have hd3 := keep_below hb3 hd2
      go_wp2_with fail
      refine (HR.out _).mono ?_
      rintro e w4 ⟨rfl, hb4⟩
      have hd4 := keep_below hb4 hd3
      go_wp2_with fail
      refine (HT.out _).mono ?_
      rintro e w5 ⟨rfl, hb5⟩
      have hd5 := keep_below hb5 hd4
      go_wp2_with fail
      refine (HT.out _).mono ?_
      rintro e w6 ⟨rfl, hb6⟩
      have hd6 := keep_below hb6 hd5
      go_wp2_with fail
      refine (HT.out _).mono ?_
      rintro e w7 ⟨rfl, hb7⟩
      have hd7 := keep_below hb7 hd6
      go_wp2_with fail
      go_ret
      exact ⟨ret_bool (by simp), hd7⟩
    · have HT : Hid (∀ W, Calls Tryd.prog 10 #[.agg (ptrs4 p q r t)] W fun e w' => e = .returned (str s) ∧ Below W.heap.size W w') := Lib.hid fun W => by
        have := iText_any p q r t W o1 o2 o3 o4; rw [ht] at this; exact this
      have hmd : ∀ W : World, (method 237 43 (.agg (ptrs4 p q r t)) "Text").run Tryd.prog W = .ok (10, .agg (ptrs4 p q r t)) W := fun _ => by kernel_rfl
      clear ht
      generalize ptrs4 p q r t = cs at *
      go_wp2_with fail
      refine (HR.out _).mono ?_
      rintro e w2 ⟨rfl, hb2⟩
      have hd2 := keep_below hb2 hb1
      go_wp2_with fail
      refine (HT.out _).mono ?_
      rintro e w3 ⟨rfl, hb3⟩
      have hd3 := keep_below hb3 hd2
      go_wp2_with fail
      refine (HR.out _).mono ?_
      rintro e w4 ⟨rfl, hb4⟩
      have hd4 := keep_below hb4 hd3
      go_wp2_with fail
      refine (HT.out _).mono ?_
      rintro e w5 ⟨rfl, hb5⟩
      have hd5 := keep_below hb5 hd4
      go_wp2_with fail
      refine (HT.out _).mono ?_
      rintro e w6 ⟨rfl, hb6⟩
      have hd6 := keep_below hb6 hd5
      go_wp2_with fail
      refine (HT.out _).mono ?_
      rintro e w7 ⟨rfl, hb7⟩
      have hd7 := keep_below hb7 hd6
      go_wp2_with fail
      go_ret
      exact ⟨ret_bool (by simp), hd7⟩
end Go.Proofs.YtkmmehhddagijaaDoor
