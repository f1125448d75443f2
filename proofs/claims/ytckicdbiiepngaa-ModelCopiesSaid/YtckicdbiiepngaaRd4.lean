/-
  The document's answers on bytes: Read, Truncate, Write; a snapshot's place.
-/
import Derived.Test.YtckicdbiiepngaaRd3
import Derived.Laws.DeepStrings4
namespace Go.Proofs.Ytckicdbiiepngaa
set_option linter.unusedVariables false
set_option linter.unusedSimpArgs false
open Go.RowKit Go.Maps Go.Lib Go.Shelf

theorem ext_str (l : List UInt8) (p m : Nat) : (ByteArray.mk l.toArray).extract p (p + m) = ⟨((l.drop p).take m).toArray⟩ := by
  refine ByteArray.ext ?_
  rw [ByteArray.data_extract]
  simp [List.extract_eq_take_drop]
theorem ext_to (l : List UInt8) (m : Nat) : (ByteArray.mk l.toArray).extract 0 m = ⟨(l.take m).toArray⟩ := by
  have := ext_str l 0 m
  simpa using this
theorem ext_from (l : List UInt8) (p : Nat) (hp : p ≤ l.length) : (ByteArray.mk l.toArray).extract p l.length = ⟨(l.drop p).toArray⟩ := by
  have := ext_str l p (l.length - p)
  rw [show p + (l.length - p) = l.length by omega] at this
  rw [this, List.take_of_length_le (by rw [List.length_drop]; omega)]
def strL (v : Value) : Nat := match v with | .string s => s.size | _ => 0

theorem cut_pad (l : List UInt8) (n : Nat) : (l ++ List.replicate (n - l.length) 0).take n = padT (l.take n) n := by
  unfold padT
  by_cases h : l.length ≤ n
  · rw [List.take_of_length_le (by simp; omega), List.take_of_length_le h]
  · rw [show n - l.length = 0 by omega, List.length_take, show n - min n l.length = 0 by omega]
    simp

set_option maxRecDepth 20000 in
theorem trunc_any (l : List UInt8) (n : Nat) (w : World) (hl : l.length ≤ 16384) (hn : n ≤ 16384) :
    Calls Try.prog 32 #[str l, .int .i64 n] w fun e w' => e = .returned (str (padT (l.take n) n)) ∧ Below w.heap.size w w' := by
  have HE := Lib.hid (cut_pad l n)
  go_enter Try.func32, Try.ntmps32
  go_wp2_with fail
  go_loop [0] (fun v => ∃ k : Nat, k ≤ n - l.length ∧ v = str (l ++ List.replicate k 0)) (fun v => n - strL v)
  case atStart => exact ⟨0, Nat.zero_le _, by simp⟩
  case round =>
    obtain ⟨k, hk, rfl⟩ := hrel
    have hml : (l ++ List.replicate k (0 : UInt8)).length = l.length + k := by simp
    have hmb : (l ++ List.replicate k (0 : UInt8)).length ≤ 140737488355400 := by rw [hml]; omega
    have hnext : (l ++ List.replicate k (0 : UInt8)) ++ [0] = l ++ List.replicate (k + 1) 0 := by rw [List.append_assoc, ← List.replicate_succ']
    by_cases hlt : l.length + k < n
    · have hq : (l ++ List.replicate k (0 : UInt8)).length < n := by rw [hml]; omega
      have HN := Lib.hid hnext
      have HM := Lib.hid hml
      clear hnext hml
      generalize l ++ List.replicate k (0 : UInt8) = m at *
      go_wp2_with fail
      go_round
      case rel =>
        refine ⟨k + 1, by omega, ?_⟩
        rw [← HN.out]
        exact congrArg Value.string (ByteArray.mk_append_mk m [0])
      case measure =>
        have e : strL (Value.string ({ data := m.toArray } ++ { data := #[0] })) = m.length + 1 := by simp [strL, ByteArray.size]
        have e2 : strL (str m) = m.length := by simp [strL, ByteArray.size]
        have := HM.out
        omega
    · have hq : ¬ (l ++ List.replicate k (0 : UInt8)).length < n := by rw [hml]; omega
      have hkN : k = n - l.length := by omega
      have HE2 : Hid ((l ++ List.replicate k (0 : UInt8)).take n = padT (l.take n) n) := Lib.hid (by rw [hkN]; exact HE.out)
      have hmn : n ≤ (l ++ List.replicate k (0 : UInt8)).length := by rw [hml]; omega
      clear hnext hml hkN
      generalize l ++ List.replicate k (0 : UInt8) = m at *
      have hsz : n ≤ (ByteArray.mk m.toArray).size := by simpa [ByteArray.size] using hmn
      go_wp2_with fail
      go_ret
      exact ⟨by rw [ext_to, HE2.out]; rfl, Below.refl _ _⟩

def rd14 (s : List UInt8) (off size : Int) : List UInt8 := if (s.length : Int) ≤ off then [] else (s.drop off.toNat).take (min size (s.length - off)).toNat
set_option maxRecDepth 20000 in
theorem read14_any (s : List UInt8) (off size : Nat) (w : World) (hl : s.length ≤ 16384) (h1 : off ≤ 9223372036854775807) (h2 : size ≤ 9223372036854775807) :
    Calls Try.prog 14 #[str s, .int .i64 off, .int .i64 size] w fun e w' => e = .returned (str (rd14 s off size)) ∧ Below w.heap.size w w' := by
  by_cases h : s.length ≤ off
  · have hd : decide ((off : Int) < s.length) = false := decide_eq_false (by omega)
    have hd2 : decide ((s.length : Int) ≤ off) = true := decide_eq_true (by omega)
    have HE : Hid (rd14 s off size = []) := Lib.hid (by unfold rd14; rw [if_pos (by omega)])
    have hd3 : ¬ (off < s.length) := by omega
    go_enter Try.func14, Try.ntmps14
    go_wp2_with fail
    go_ret
    exact ⟨by rw [HE.out]; rfl, Below.refl _ _⟩
  · have hd2 : decide ((s.length : Int) ≤ off) = false := decide_eq_false (by omega)
    obtain ⟨m, hm⟩ : ∃ m : Nat, m = min size (s.length - off) := ⟨_, rfl⟩
    have HE : Hid (rd14 s off size = (s.drop off).take m) := Lib.hid (by unfold rd14; rw [if_neg (by omega), hm]; congr 1; omega)
    have hsl : ∀ W, (Instr.slice 9 (str s) (some (.int .i64 off)) (some (.int .i64 ((off : Int) + min (size : Int) ((s.length : Int) - (off : Int))))) none).run Try.prog W = .ok (str ((s.drop off).take m)) W := fun W => by
      have hb1 : off + m ≤ (ByteArray.mk s.toArray).size := by simp [ByteArray.size]; omega
      have he : (off : Int) + min (size : Int) ((s.length : Int) - (off : Int)) = ((off + m : Nat) : Int) := by omega
      rw [he, run_slice_string_if W _ _ _ _ _ _ Try.underlying9, if_pos ⟨by omega, by omega⟩, if_pos ⟨by omega, by omega⟩]
      rw [Int.toNat_natCast, Int.toNat_natCast, ext_str]
    clear hm
    go_enter Try.func14, Try.ntmps14
    go_wp2_with fail
    go_ret
    exact ⟨by rw [HE.out]; rfl, Below.refl _ _⟩

theorem wr_zero (l : List UInt8) (off : Nat) : wrT l off [] = l := by
  unfold wrT offT layT padT
  simp
theorem wr_cut (l s : List UInt8) (off : Nat) (hs : s ≠ []) :
    wrT l off s = (l ++ List.replicate (off - l.length) 0).take off ++ s ++ (l ++ List.replicate (off - l.length) 0).drop (off + s.length) := by
  unfold wrT offT layT padT
  rw [if_neg hs, Int.toNat_natCast]
  by_cases h : off + s.length ≤ l.length
  · rw [show max l.length (off + s.length) - l.length = 0 by omega, show off - l.length = 0 by omega]
  · have e1 : max l.length (off + s.length) - l.length = off + s.length - l.length := by omega
    rw [e1]
    congr 1
    · congr 1
      by_cases h2 : off ≤ l.length
      · rw [show off - l.length = 0 by omega, List.take_append_of_le_length h2, List.take_append_of_le_length h2]
      · rw [List.take_append, List.take_append, List.take_replicate, List.take_replicate, show min (off - l.length) (off + s.length - l.length) = off - l.length by omega, show min (off - l.length) (off - l.length) = off - l.length by omega]
    · rw [List.drop_of_length_le (by simp; omega), List.drop_of_length_le (by simp; omega)]
set_option maxRecDepth 20000 in
theorem write14_any (l s : List UInt8) (off : Nat) (w : World) (hl : l.length ≤ 16384) (hn : off ≤ 16384) (hs : s.length ≤ 16384) :
    Calls Try.prog 33 #[str l, .int .i64 off, str s] w fun e w' => e = .returned (str (wrT l off s)) ∧ Below w.heap.size w w' := by
  have HE := Lib.hid (wr_zero l off)
  have HE2 := Lib.hid (wr_cut l s off)
  have heq := fun W => eq_empty s W
  cases hse : s with
  | nil =>
    subst hse
    simp only [List.isEmpty_nil] at heq
    go_enter Try.func33, Try.ntmps33
    go_wp2_with fail
    go_ret
    exact ⟨by rw [HE.out]; rfl, Below.refl _ _⟩
  | cons s0 sr =>
    have hne : s ≠ [] := by rw [hse]; simp
    have hemp : s.isEmpty = false := by rw [hse]; rfl
    rw [← hse]
    have HE3 := Lib.hid (HE2.out hne)
    clear hse heq HE HE2 hne
    go_enter Try.func33, Try.ntmps33
    go_wp2_with fail
    go_loop [0] (fun v => ∃ k : Nat, k ≤ off - l.length ∧ v = str (l ++ List.replicate k 0)) (fun v => off - strL v)
    case atStart => exact ⟨0, Nat.zero_le _, by simp⟩
    case round =>
      obtain ⟨k, hk, rfl⟩ := hrel
      have hml : (l ++ List.replicate k (0 : UInt8)).length = l.length + k := by simp
      have hmb : (l ++ List.replicate k (0 : UInt8)).length ≤ 140737488355400 := by rw [hml]; omega
      have hnext : (l ++ List.replicate k (0 : UInt8)) ++ [0] = l ++ List.replicate (k + 1) 0 := by rw [List.append_assoc, ← List.replicate_succ']
      by_cases hlt : l.length + k < off
      · have hq : (l ++ List.replicate k (0 : UInt8)).length < off := by rw [hml]; omega
        have HN := Lib.hid hnext
        have HM := Lib.hid hml
        clear hnext hml
        generalize l ++ List.replicate k (0 : UInt8) = m at *
        go_wp2_with fail
        go_round
        case rel =>
          refine ⟨k + 1, by omega, ?_⟩
          rw [← HN.out]
          exact congrArg Value.string (ByteArray.mk_append_mk m [0])
        case measure =>
          have e : strL (Value.string ({ data := m.toArray } ++ { data := #[0] })) = m.length + 1 := by simp [strL, ByteArray.size]
          have e2 : strL (str m) = m.length := by simp [strL, ByteArray.size]
          have := HM.out
          omega
      · have hq : ¬ (l ++ List.replicate k (0 : UInt8)).length < off := by rw [hml]; omega
        have hkN : k = off - l.length := by omega
        have HE4 : Hid (wrT l off s = (l ++ List.replicate k (0 : UInt8)).take off ++ s ++ (l ++ List.replicate k (0 : UInt8)).drop (off + s.length)) := Lib.hid (by rw [hkN]; exact HE3.out)
        have hmn : off ≤ (l ++ List.replicate k (0 : UInt8)).length := by rw [hml]; omega
        have hmm : (l ++ List.replicate k (0 : UInt8)).length ≤ 32768 := by rw [hml]; omega
        clear hnext hml hkN HE3
        generalize l ++ List.replicate k (0 : UInt8) = m at *
        have hsz : off ≤ (ByteArray.mk m.toArray).size := by simpa [ByteArray.size] using hmn
        have htl : (m.take off ++ s).length = off + s.length := by rw [List.length_append, List.length_take]; omega
        have hs1 : ∀ W, (Instr.slice 9 (str m) none (some (.int .i64 off)) none).run Try.prog W = .ok (str (m.take off)) W := fun W => by
          rw [run_slice_string_to_if W _ _ _ _ Try.underlying9, if_pos ⟨by omega, by omega⟩, Int.toNat_natCast, ext_to]
        have hcat : ∀ x y : List UInt8, ({ data := x.toArray } : ByteArray) ++ { data := y.toArray } = { data := (x ++ y).toArray } := fun x y => ByteArray.mk_append_mk x y
        have k1 : ¬ 9223372036854775807 < (ByteArray.mk (m.take off).toArray).size + (ByteArray.mk s.toArray).size := by simp [ByteArray.size]; omega
        have k1b : (m.take off).length + s.length ≤ 9223372036854775807 := by simp; omega
        by_cases hgt : off + s.length < m.length
        · have hg2 : (m.take off ++ s).length < m.length := by omega
          have HR : Hid (str (m.take off ++ (s ++ (m.drop (off + s.length)).take (m.length - (off + s.length)))) = str (wrT l off s)) := Lib.hid (by
            rw [HE4.out, List.take_of_length_le (l := m.drop (off + s.length)) (by rw [List.length_drop]; omega), List.append_assoc])
          clear HE4 hs1
          go_wp2_with fail
          go_ret
          exact ⟨by rw [← HR.out]; rfl, Below.refl _ _⟩
        · have hg2 : ¬ (m.take off ++ s).length < m.length := by omega
          have HR : Hid (str (m.take off ++ s) = str (wrT l off s)) := Lib.hid (by
            rw [HE4.out, List.drop_of_length_le (by omega), List.append_nil])
          clear HE4 hs1
          go_wp2_with fail
          go_ret
          exact ⟨by rw [← HR.out]; rfl, Below.refl _ _⟩

set_option maxRecDepth 20000 in
theorem rfind_any {w : World} {cs : Array Value} {A1 : Option Addr} {c1 : Nat} {ids : List Int} (h64 : cs[64]? = some (.slice A1 ids.length c1)) (hr : Reads w 1 A1 ids.length (ids.map fun x => .int .i64 x)) (few : ids.length ≤ 1000) (id : Int) :
    Calls Try.prog 13 #[.agg cs, .int .i64 id] w fun e w' => e = .returned (.int .i64 (fstI ids id)) ∧ Below w.heap.size w w' := by
  have H := Lib.hid hr
  obtain ⟨w1, hw1⟩ : ∃ x, x = w.alloc (.cells cs 33) := ⟨_, rfl⟩
  have hb1 : Below w.heap.size w w1 := by rw [hw1]; exact keep_alloc (Below.refl _ _) _
  have hx1 : Blk w1 w.heap.size 33 cs := by rw [hw1]; exact Blk.new _ _ _
  have k64 := hx1.at_ h64
  have HB1 := Lib.hid hb1
  clear hr hb1 hx1 h64
  go_enter Try.func13, Try.ntmps13
  go_wp2_with fail
  rw [← hw1]
  clear hw1
  go_loopw [5] (fun t wr => ∃ k : Nat, k ≤ ids.length ∧ t = .int .i64 k ∧ wr = w1 ∧ ∀ j : Nat, j < k → ids[j]? ≠ some id) (fun t _ => ids.length - (intOf t).toNat)
  case atStart => exact ⟨0, Nat.zero_le _, rfl, rfl, fun j hj => absurd hj (Nat.not_lt_zero _)⟩
  case round =>
    obtain ⟨k, hk, rfl, rfl, hal⟩ := hrel
    have HAL := Lib.hid hal
    clear hal
    by_cases hlt : k < ids.length
    · obtain ⟨x, hx⟩ : ∃ x, ids[k]? = some x := ⟨_, List.getElem?_eq_getElem hlt⟩
      obtain ⟨b, off, rfl, hbl, hc⟩ := (H.out.below HB1.out (Nat.le_refl _)).2 (by omega)
      have a1 := hc k (.int .i64 x) (by rw [List.getElem?_map, hx]; rfl)
      have HLT := Lib.hid hlt
      have HX := Lib.hid hx
      clear hx hc
      by_cases hq : x = id
      · have hqq : (x == id) = true := beq_iff_eq.2 hq
        have HFI : Hid (fstI ids id = k) := Lib.hid (by unfold fstI; rw [fstN_is (by rw [HX.out, hq]) HAL.out])
        clear hq
        go_wp2_with fail
        go_ret
        exact ⟨by rw [HFI.out]; rfl, HB1.out⟩
      · have HQ := Lib.hid hq
        have hqq : (x == id) = false := beq_eq_false_iff_ne.2 hq
        clear hq
        go_wp2_with fail
        go_roundw
        case rel =>
          refine ⟨k + 1, HLT.out, by go_num, trivial, fun j hj => ?_⟩
          by_cases e : j < k
          · exact HAL.out j e
          · obtain rfl : j = k := by omega
            rw [HX.out]
            exact fun h => HQ.out (Option.some.inj h)
        case measure => have := HLT.out; simp [intOf]; omega
    · obtain rfl : k = ids.length := by omega
      have hdc : decide ((ids.length : Int) < ids.length) = false := decide_eq_false (by omega)
      go_wp2_with fail
      go_ret
      have hfi : fstI ids id = -1 := by
        unfold fstI
        rw [fstN_no fun j => ?_]
        by_cases e : j < ids.length
        · exact HAL.out j e
        · rw [List.getElem?_eq_none (by omega)]; simp
      exact ⟨by rw [hfi]; rfl, HB1.out⟩
end Go.Proofs.Ytckicdbiiepngaa
