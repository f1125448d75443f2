/-
  Contracts of package dev: New, Fresh, Write; a sector full of a byte.
-/
import Derived.Test.YtkaijdnaheikeaaDev
import Derived.Test.YtkaijdnaheikeaaShelf
import Derived.StillTailTactics
import Derived.Maps.AppendAt
namespace Go.Proofs.Ytkaijdnaheikeaa
set_option linter.unusedVariables false
set_option linter.unusedSimpArgs false
open Go.RowKit

theorem Try.infoB : (Try.prog.info? 5).map (fun i => (i.zero, i.size, i.bytes)) = some (some (.int .u8 0), 1, 1) := by kernel_rfl
theorem Try.infoS : (Try.prog.info? 9).map (fun i => (i.zero, i.size, i.bytes)) = some (some (.string ⟨#[]⟩), 1, 16) := by kernel_rfl
theorem one_new (w : World) (u : Value) (t : TypeId) : ∀ j v, [u][j]? = some v → (w.alloc (.cells #[u] t)).cell? ((⟨w.heap.size, 0, none⟩ : Addr).add j) = some v := by
  intro j v hj
  match j, hj with
  | 0, hj => simp at hj; subst hj; simp [Addr.add]

theorem full_cell (b : UInt8) (j : Nat) (hj : j < (fullL b).length) : (List.replicate 64 (Value.int .u8 b.toNat))[j]? = some (.int .u8 ((fullL b)[j]'hj).toNat) := by
  have h64 : j < 64 := by rwa [fullL_len] at hj
  have e : (fullL b)[j]'hj = b := by unfold fullL; exact List.getElem_replicate _
  rw [List.getElem?_replicate, if_pos h64, e]
theorem rfull_any (b : UInt8) (w : World) : Calls Try.prog 13 #[.int .u8 b.toNat] w fun e w' => e = .returned (str (fullL b)) ∧ Below w.heap.size w w' := by
  obtain ⟨i0, hi, hz0, hz1, hz2⟩ := info_parts Try.infoB
  go_enter Try.func13, Try.ntmps13
  go_wp2
  go_loopw [3, 4] (fun v t wr => ∃ k : Nat, k ≤ 64 ∧ t = .int .i64 k ∧ wr.ownsRow w.heap.size 5 1 v k (List.replicate k (.int .u8 b.toNat)) ∧ Below w.heap.size w wr) (fun _ t _ => 64 - (intOf t).toNat)
  case atStart => exact ⟨0, Nat.zero_le _, rfl, World.ownsRow_nil _ _ _ _, Below.refl _ _⟩
  case round =>
    obtain ⟨k, hk, rfl, hown, hb⟩ := hrel
    by_cases hlt : k < 64
    · obtain ⟨xs, hxs⟩ : ∃ xs, xs = List.replicate k (Value.int .u8 b.toNat) := ⟨_, rfl⟩
      rw [← hxs] at hown
      have HX := Lib.hid hxs
      clear hxs
      have hdk : decide ((k : Int) < 64) = true := decide_eq_true (by omega)
      go_wp2_with (at_builtin; refine wpList_append_own _ rfl _ _ 40 rfl w.heap.size 5 i0 _ 1 1 Try.underlying40 hi hz0 hz1 hz2 rfl (by decide) _ _ _ rfl (hown.alloc _) ⟨wr.heap.size, 0, none⟩ 1 1 [.int .u8 b.toNat] rfl rfl ?c1 ?c2 (by unfold maxLen; omega) (by omega) ?c5 ?_)
      case c1 => exact one_new _ _ _
      case c2 => intro u hu; simp at hu; subst hu; rfl
      case c5 => have := hb.size; simp; omega
      intro v' w1 hown' hgrow _
      have hown2 : w1.ownsRow w.heap.size 5 1 v' (k + 1) (List.replicate (k + 1) (.int .u8 b.toNat)) := by
        rw [List.replicate_succ', ← HX.out]
        exact hown'
      have hb2 : Below w.heap.size w w1 := (hb.alloc hb.size _).grown hgrow (by have := hb.size; simp; omega) (fun k hk => (hown.lt k hk).1)
      clear hown hown' hgrow
      go_wp2_with fail
      go_roundw
      case rel => exact ⟨k + 1, by omega, by go_num, hown2, hb2⟩
      case measure => simp [intOf]; omega
    · obtain rfl : k = 64 := by omega
      obtain ⟨g, cap, rfl, _, _⟩ := hown.form (by omega)
      have hE : (convert 40 9 (.slice (some ⟨g, 0, none⟩) 64 cap)).run Try.prog wr = .ok (str (fullL b)) wr := by
        have := run_convert_bytes_back (P := Try.prog) wr 40 9 5 ⟨g, 0, none⟩ cap (fullL b) Try.underlying40 Try.underlying5 Try.underlying9
          (fun j hj => hown.cells rfl j _ (full_cell b j hj))
        rw [fullL_len] at this
        exact this
      go_wp2_with fail
      go_ret
      exact ⟨rfl, hb⟩

theorem conv_b (b : UInt8) (W : World) : (convert 40 9 (.slice (some ⟨W.heap.size, 0, none⟩) 1 1)).run Try.prog (W.alloc (.cells #[.int .u8 b.toNat] 5)) =
    .ok (str [b]) (W.alloc (.cells #[.int .u8 b.toNat] 5)) := by
  refine run_convert_bytes_back (P := Try.prog) (W.alloc (.cells #[.int .u8 b.toNat] 5)) 40 9 5 ⟨W.heap.size, 0, none⟩ 1 [b] Try.underlying40 Try.underlying5 Try.underlying9 (fun j hj => ?_)
  have hj0 : j = 0 := by simpa using hj
  subst hj0
  exact one_new W (.int .u8 b.toNat) 5 0 _ rfl
theorem repeat_full (b : UInt8) : ∀ n, Lib.repeatL [b] n = List.replicate n b
  | 0 => rfl
  | n + 1 => by rw [Lib.repeatL, repeat_full b n]; rfl
theorem rep_any (b : UInt8) (w : World) : Calls Try.prog 30 #[str [b], .int .i64 64] w fun e w' => e = .returned (str (fullL b)) ∧ Below w.heap.size w w' :=
  (Try.strings_Repeat ⟨#[b]⟩ 64 w (by omega) (by show 1 * 64 ≤ _; omega)).mono fun e w' h => ⟨by rw [h.1]; show Ending.returned (.string ⟨(Lib.repeatL [b] 64).toArray⟩) = _; rw [repeat_full]; rfl, h.2⟩

theorem blank_any (n : Nat) (b : UInt8) (w : World) (hn : n ≤ 4096) : Calls Try.prog 24 #[.int .i64 n, .int .u8 b.toNat] w fun e w' =>
    ∃ v, e = .returned v ∧ w'.ownsRow w.heap.size 9 1 v n (List.replicate n (str (fullL b))) ∧ Below w.heap.size w w' := by
  obtain ⟨i0, hi, hz0, hz1, hz2⟩ := info_parts Try.infoS
  go_enter Try.func24, Try.ntmps24
  go_wp2
  go_loopw [5, 7] (fun v t wr => ∃ k : Nat, k ≤ n ∧ t = .int .i64 k ∧ wr.ownsRow w.heap.size 9 1 v k (List.replicate k (str (fullL b))) ∧ Below w.heap.size w wr) (fun _ t _ => n - (intOf t).toNat)
  case atStart => exact ⟨0, Nat.zero_le _, rfl, World.ownsRow_nil _ _ _ _, Below.refl _ _⟩
  case round =>
    obtain ⟨k, hk, rfl, hown, hb⟩ := hrel
    by_cases hlt : k < n
    · have hcv := conv_b b wr
      go_wp2_with fail
      refine (rep_any b _).mono ?_
      rintro e w2 ⟨rfl, hb2⟩
      have hd1 : Below w.heap.size w (wr.alloc (.cells #[.int .u8 b.toNat] 5)) := keep_alloc hb _
      have hd2 := keep_below hb2 hd1
      have hown1 := (hown.alloc (.cells #[.int .u8 b.toNat] 5))
      have hown2 := ownsRow_same hown1 (fun b' e => hb2.block b' (hown1.lt b' e).2)
      have hs2 : w.heap.size ≤ w2.heap.size := hd2.size
      clear hcv hown1 hown hd1
      go_wp2_with (at_builtin; refine wpList_append_own _ rfl _ _ 49 rfl w.heap.size 9 i0 _ 1 16 Try.underlying49 hi hz0 hz1 hz2 rfl (by decide) _ _ _ rfl (hown2.alloc _) ⟨w2.heap.size, 0, none⟩ 1 1 [str (fullL b)] rfl rfl ?c1 ?c2 (by unfold maxLen; omega) (by omega) ?c5 ?_)
      case c1 => exact one_new _ _ _
      case c2 => intro u hu; simp at hu; subst hu; rfl
      case c5 => simp; omega
      intro v' w3 hown' hgrow _
      have hown3 : w3.ownsRow w.heap.size 9 1 v' (k + 1) (List.replicate (k + 1) (str (fullL b))) := by
        rw [List.replicate_succ']
        exact hown'
      have hb3 : Below w.heap.size w w3 := (hd2.alloc hd2.size _).grown hgrow (by simp; omega) (fun k hk => (hown2.lt k hk).1)
      clear hown2 hown' hgrow
      go_wp2_with fail
      go_roundw
      case rel => exact ⟨k + 1, by omega, by go_num, hown3, hb3⟩
      case measure => simp [intOf]; omega
    · obtain rfl : k = n := by omega
      go_wp2_with fail
      go_ret
      exact ⟨_, rfl, hown, hb⟩

/-- A new device, laid. -/
theorem devIn_new {w : World} {S : Nat → Prop} {n : Nat} {b : UInt8} {mb mcap cb bd : Nat} (h1 : 1 ≤ n)
    (hbox : Blk w bd 53 #[.slice (some ⟨mb, 0, none⟩) n mcap, .map (some cb), .bool false, .int .i64 (-1)])
    (hm : w.ownsRow 0 9 1 (.slice (some ⟨mb, 0, none⟩) n mcap) n (List.replicate n (str (fullL b)))) (hc : MapAt Try.prog 3 w cb 0 (fun _ => none)) (s1 : S bd) (s2 : S mb) (s3 : S cb) (hl : ∀ i, S i → i < w.heap.size) :
    DevAt w S bd (DevD.blank n b) :=
  ⟨mb, mcap, cb, fun _ => none, by simpa [DevD.blank] using hbox, by simpa [DevD.blank] using hm, (hc.mono (Nat.zero_le _)), fun k h => (by simp at h), fun k _ => rfl, fun k v e => (by simp at e), fun k v e => (by simp at e), fun j k v u e => (by simp at e), s1, s2, s3, hl⟩
theorem blank_ok {n : Nat} {b : UInt8} (h1 : 1 ≤ n) (h2 : n ≤ 4096) : (DevD.blank n b).Ok :=
  ⟨by simpa [DevD.blank] using h1, by simpa [DevD.blank] using h2, fun s hs => by simp [DevD.blank] at hs; rw [hs.2]; exact fullL_len b, fun k s hs => by simp [DevD.blank] at hs, fun k _ => rfl, by simp [DevD.blank], by simp [DevD.blank]⟩

theorem new_any (n : Nat) (w : World) (h1 : 1 ≤ n) (h2 : n ≤ 4096) : Calls Try.prog 11 #[.int .i64 n] w fun e w' =>
    ∃ bd, e = .returned (.tuple #[.pointer (some ⟨bd, 0, none⟩), .int .i64 0]) ∧ DevAt w' (fun i => w.heap.size ≤ i ∧ i < w'.heap.size) bd (DevD.blank n 0) ∧ Below w.heap.size w w' := by
  have HB := Lib.hid fun W => blank_any n 0 W h2
  have hmm := @run_makeMap Try.prog
  go_enter Try.func11, Try.ntmps11
  go_wp2_with fail
  refine (HB.out _).mono ?_
  rintro e w1 ⟨v, rfl, hr, hb1⟩
  obtain ⟨mb, cap, rfl, _, _⟩ := hr.form (by omega)
  have hmb := hr.lt mb rfl
  have HR := Lib.hid hr
  clear hr
  go_wp2_with fail
  go_ret2
  have hs := hb1.size
  refine ⟨_, rfl, devIn_new h1 (by have := Blk.new2 w1 (.map #[] 0) 53 #[.slice (some ⟨mb, 0, none⟩) n cap, .map (some w1.heap.size), .bool false, .int .i64 (-1)]; exact this)
    (ownsRow_zero ((HR.out.alloc _).alloc _)) ((mapAt_made w1 Try.prog 3).same (Below.heap_alloc _ _ _ (by simp))) ⟨by omega, by simp⟩ ⟨hmb.1, by simp; omega⟩ ⟨hs, by simp; omega⟩ (fun i hi => hi.2), keep_alloc (keep_alloc hb1 _) _⟩
end Go.Proofs.Ytkaijdnaheikeaa
