/-
  Contracts of package le and of its reference: numbers in bytes.
-/
import Derived.Test.YtkmmehhddagijaaRows
import Derived.Test.YtkmmehhddagijaaBase
namespace Go.Proofs.Ytkmmehhddagijaa
open Go.RowKit
set_option linter.unusedVariables false

/-- A text as a value. -/
abbrev str (l : List UInt8) : Value := .string ⟨l.toArray⟩
theorem ret_str {a b : List UInt8} (h : a = b) : Ending.returned (str a) = .returned (str b) := by rw [h]
/-- The n lowest bytes of x. -/
def layL (x : Nat) (n : Nat) : List UInt8 := (List.range n).map fun i => UInt8.ofNat (x / 256 ^ i)
theorem layL_succ (x n : Nat) : layL x (n + 1) = layL x n ++ [UInt8.ofNat (x / 256 ^ n)] := by simp [layL, List.range_succ]
theorem layL_len (x n : Nat) : (layL x n).length = n := by simp [layL]

theorem Try.infoByte : (Try.prog.info? 5).map (fun i => (i.zero, i.size, i.bytes)) = some (some (.int .u8 0), 1, 1) := by kernel_rfl

theorem byte_of (x k : Nat) : ((UInt8.ofNat (x / 256 ^ k)).toNat : Int) = (x : Int) / 2 ^ (8 * k) % 256 := by
  rw [UInt8.toNat_ofNat', show (256 : Nat) ^ k = 2 ^ (8 * k) from by rw [Nat.pow_mul]]
  simp
theorem byte_new (w : World) (u : Value) (t : TypeId) : ∀ j v, [u][j]? = some v → (w.alloc (.cells #[u] t)).cell? ((⟨w.heap.size, 0, none⟩ : Addr).add j) = some v := by
  intro j v hj
  match j, hj with
  | 0, hj => simp at hj; subst hj; simp [Addr.add]

def u32L (n : Int) : List UInt8 := if 0 ≤ n ∧ n ≤ 4294967295 then layL n.toNat 4 else []
def intL (n : Int) : List UInt8 := if 0 ≤ n ∧ n ≤ 4611686018427387903 then layL n.toNat 8 else []

theorem conv_one (y : Nat) (W : World) : (convert 70 9 (.slice (some ⟨W.heap.size, 0, none⟩) 1 1)).run Try.prog (W.alloc (.cells #[.int .u8 ((y : Int) % 256)] 5)) =
    .ok (str [UInt8.ofNat y]) (W.alloc (.cells #[.int .u8 ((y : Int) % 256)] 5)) := by
  refine run_convert_bytes_back (P := Try.prog) (W.alloc (.cells #[.int .u8 ((y : Int) % 256)] 5)) 70 9 5 ⟨W.heap.size, 0, none⟩ 1 [UInt8.ofNat y] Try.underlying70 Try.underlying5 Try.underlying9 (fun j hj => ?_)
  have hj0 : j = 0 := by simpa using hj
  subst hj0
  have := byte_new W (.int .u8 ((y : Int) % 256)) 5 0 _ rfl
  rw [this]
  simp

theorem ba_size (l : List UInt8) : (ByteArray.mk l.toArray).size = l.length := by simp [ByteArray.size]
theorem ba_get {l : List UInt8} {k : Nat} (h : k < (ByteArray.mk l.toArray).size) : (ByteArray.mk l.toArray)[k] = l[k]'(by rw [ba_size] at h; exact h) := by
  simp [ByteArray.getElem_eq_getElem_data]
def allZ (l : List UInt8) : Bool := l.all (· == 0)
end Go.Proofs.Ytkmmehhddagijaa
