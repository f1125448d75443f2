/-
  Contracts of package le and of its reference: numbers in bytes.
-/
import Derived.Test.YtidmbibpoldgcaaRows
import Derived.Test.YtidmbibpoldgcaaStr
namespace Go.Proofs.Ytidmbibpoldgcaa
open Go.RowKit
set_option linter.unusedVariables false

/-- The n lowest bytes of x. -/
def layL (x : Nat) (n : Nat) : List UInt8 := (List.range n).map fun i => UInt8.ofNat (x / 256 ^ i)
theorem layL_succ (x n : Nat) : layL x (n + 1) = layL x n ++ [UInt8.ofNat (x / 256 ^ n)] := by simp [layL, List.range_succ]
theorem layL_len (x n : Nat) : (layL x n).length = n := by simp [layL]

theorem Try.infoByte : (Try.prog.info? 5).map (fun i => (i.zero, i.size, i.bytes)) = some (some (.int .u8 0), 1, 1) := by kernel_rfl

theorem byte_of (x k : Nat) : ((UInt8.ofNat (x / 256 ^ k)).toNat : Int) = (x : Int) / 2 ^ (8 * k) % 256 := by
  rw [UInt8.toNat_ofNat', show (256 : Nat) ^ k = 2 ^ (8 * k) from by rw [Nat.pow_mul]]
  simp
theorem byte_new (w : World) (u : Value) (t : TypeId) : ∀ j v, [u][j]? = some v → (w.alloc (.cells #[u] t)).cell? ((⟨w.heap.size, 0, none⟩ : Addr).add j) = some v := by
  intro j v hj
  match j, hj with
  | 0, hj => simp at hj; subst hj; simp [Addr.add]

theorem laid_any (x n : Nat) (w : World) (hx : x < 18446744073709551616) (hn : n ≤ 8) (hn0 : 0 < n) :
    Calls Try.prog 32 #[.int .u64 x, .int .i64 n] w fun e w' => e = .returned (str (layL x n)) ∧ Below w.heap.size w w' := by
  obtain ⟨i0, hi, hz0, hz1, hz2⟩ := info_parts Try.infoByte
  have HX := Lib.hid hx
  clear hx
  go_enter Try.func32, Try.ntmps32
  go_wp2
  go_loopw [5, 8] (fun v t wr => ∃ k : Nat, k ≤ n ∧ t = .int .i64 k ∧ wr.ownsRow w.heap.size 5 1 v k ((layL x k).map fun b => .int .u8 b.toNat) ∧ Below w.heap.size w wr) (fun _ t _ => n - (intOf t).toNat)
  case atStart => exact ⟨0, Nat.zero_le _, rfl, World.ownsRow_nil _ _ _ _, Below.refl _ _⟩
  case round =>
    obtain ⟨k, hk, rfl, hown, hb⟩ := hrel
    by_cases hlt : k < n
    · go_wp2_with (at_builtin; refine wpList_append_own _ rfl _ _ 89 rfl w.heap.size 5 i0 _ 1 1 Try.underlying89 hi hz0 hz1 hz2 rfl (by decide) _ _ _ rfl (hown.alloc _) ⟨wr.heap.size, 0, none⟩ 1 1 [.int .u8 ((x : Int) / 2 ^ (8 * k) % 256)] rfl rfl ?c1 ?c2 (by unfold maxLen; omega) (by omega) ?c5 ?_)
      case c1 => exact byte_new _ _ _
      case c2 => intro u hu; simp at hu; subst hu; rfl
      case c5 => have := hb.size; simp; omega
      intro v' w1 hown' hgrow _
      have hown2 : w1.ownsRow w.heap.size 5 1 v' (k + 1) ((layL x (k + 1)).map fun b => .int .u8 b.toNat) := by
        rw [layL_succ, List.map_append]
        simp only [List.map_cons, List.map_nil, byte_of]
        exact hown'
      have hb2 : Below w.heap.size w w1 := (hb.alloc hb.size _).grown hgrow (by have := hb.size; simp; omega) (fun k hk => (hown.lt k hk).1)
      clear hown hown' hgrow
      go_wp2_with fail
      go_roundw
      case rel => exact ⟨k + 1, by omega, by go_num, hown2, hb2⟩
      case measure => simp [intOf]; omega
    · obtain rfl : k = n := by omega
      obtain ⟨g, cap, rfl, _, _⟩ := hown.form hn0
      have hE : (convert 89 9 (.slice (some ⟨g, 0, none⟩) k cap)).run Try.prog wr = .ok (str (layL x k)) wr := by
        have := run_convert_bytes_back (P := Try.prog) wr 89 9 5 ⟨g, 0, none⟩ cap (layL x k) Try.underlying89 Try.underlying5 Try.underlying9
          (fun j hj => hown.cells rfl j _ (by rw [List.getElem?_map, List.getElem?_eq_getElem hj]; rfl))
        rw [layL_len] at this
        exact this
      clear hown
      go_wp2_with fail
      go_ret
      exact ⟨rfl, hb⟩

theorem u64_any (x : Nat) (w : World) (hx : x < 18446744073709551616) :
    Calls Try.prog 27 #[.int .u64 x] w fun e w' => e = .returned (str (layL x 8)) ∧ Below w.heap.size w w' := by
  go_enter Try.func27, Try.ntmps27
  go_wp2_with fail
  refine (laid_any x 8 _ hx (by omega) (by omega)).mono ?_
  rintro e w1 ⟨rfl, hb⟩
  go_wp2_with fail
  go_ret
  exact ⟨rfl, hb⟩

def u32L (n : Int) : List UInt8 := if 0 ≤ n ∧ n ≤ 4294967295 then layL n.toNat 4 else []
def intL (n : Int) : List UInt8 := if 0 ≤ n ∧ n ≤ 4611686018427387903 then layL n.toNat 8 else []

theorem u32_any (n : Int) (w : World) : Calls Try.prog 33 #[.int .i64 n] w fun e w' => e = .returned (str (u32L n)) ∧ Below w.heap.size w w' := by
  by_cases h : 0 ≤ n ∧ n ≤ 4294967295
  · obtain ⟨h1, h2⟩ := h
    obtain ⟨k, rfl⟩ := Int.eq_ofNat_of_zero_le h1
    have he : Hid (u32L k = layL k 4) := by unfold Hid u32L; rw [if_pos ⟨h1, h2⟩]; rfl
    go_enter Try.func33, Try.ntmps33
    go_wp2_with fail
    refine (laid_any k 4 _ (by omega) (by omega) (by omega)).mono ?_
    rintro e w1 ⟨rfl, hb⟩
    go_wp2_with fail
    go_ret
    exact ⟨ret_str he.out.symm, hb⟩
  · have he : Hid (u32L n = []) := by unfold Hid u32L; rw [if_neg h]
    go_enter Try.func33, Try.ntmps33
    go_wp2_with fail
    all_goals go_ret
    all_goals exact ⟨ret_str he.out.symm, Below.refl _ _⟩

theorem int_any (n : Int) (w : World) : Calls Try.prog 24 #[.int .i64 n] w fun e w' => e = .returned (str (intL n)) ∧ Below w.heap.size w w' := by
  by_cases h : 0 ≤ n ∧ n ≤ 4611686018427387903
  · obtain ⟨h1, h2⟩ := h
    obtain ⟨k, rfl⟩ := Int.eq_ofNat_of_zero_le h1
    have he : Hid (intL k = layL k 8) := by unfold Hid intL; rw [if_pos ⟨h1, h2⟩]; rfl
    go_enter Try.func24, Try.ntmps24
    go_wp2_with fail
    refine (u64_any k _ (by omega)).mono ?_
    rintro e w1 ⟨rfl, hb⟩
    go_wp2_with fail
    go_ret
    exact ⟨ret_str he.out.symm, hb⟩
  · have he : Hid (intL n = []) := by unfold Hid intL; rw [if_neg h]
    go_enter Try.func24, Try.ntmps24
    go_wp2_with fail
    all_goals go_ret
    all_goals exact ⟨ret_str he.out.symm, Below.refl _ _⟩

theorem conv_one (y : Nat) (W : World) : (convert 89 9 (.slice (some ⟨W.heap.size, 0, none⟩) 1 1)).run Try.prog (W.alloc (.cells #[.int .u8 ((y : Int) % 256)] 5)) =
    .ok (str [UInt8.ofNat y]) (W.alloc (.cells #[.int .u8 ((y : Int) % 256)] 5)) := by
  refine run_convert_bytes_back (P := Try.prog) (W.alloc (.cells #[.int .u8 ((y : Int) % 256)] 5)) 89 9 5 ⟨W.heap.size, 0, none⟩ 1 [UInt8.ofNat y] Try.underlying89 Try.underlying5 Try.underlying9 (fun j hj => ?_)
  have hj0 : j = 0 := by simpa using hj
  subst hj0
  have := byte_new W (.int .u8 ((y : Int) % 256)) 5 0 _ rfl
  rw [this]
  simp

theorem ba_size (l : List UInt8) : (ByteArray.mk l.toArray).size = l.length := by simp [ByteArray.size]
theorem ba_get {l : List UInt8} {k : Nat} (h : k < (ByteArray.mk l.toArray).size) : (ByteArray.mk l.toArray)[k] = l[k]'(by rw [ba_size] at h; exact h) := by
  simp [ByteArray.getElem_eq_getElem_data]
def allZ (l : List UInt8) : Bool := l.all (· == 0)
end Go.Proofs.Ytidmbibpoldgcaa
