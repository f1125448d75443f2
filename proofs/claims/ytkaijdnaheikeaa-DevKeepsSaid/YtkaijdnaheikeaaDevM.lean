/-
  A device, in plain words: what stands on the medium, what was written since, whether it is lost, the fuse. No program stands here.
-/
import Derived.Test.YtkaijdnaheikeaaBase
namespace Go.Proofs.Ytkaijdnaheikeaa
set_option linter.unusedVariables false
set_option linter.unusedSimpArgs false

structure DevD where
  med : List (List UInt8)
  cac : Nat → List (List UInt8)
  lost : Bool
  fuse : Int

def fullL (b : UInt8) : List UInt8 := List.replicate 64 b
theorem fullL_len (b : UInt8) : (fullL b).length = 64 := by simp [fullL]
def lastOr (l : List (List UInt8)) (s : List UInt8) : List UInt8 := l.getLast?.getD s
theorem lastOr_snoc (l : List (List UInt8)) (x s : List UInt8) : lastOr (l ++ [x]) s = x := by simp [lastOr]
theorem lastOr_nil (s : List UInt8) : lastOr [] s = s := rfl
namespace DevD
def blank (n : Nat) (b : UInt8) : DevD := ⟨List.replicate n (fullL b), fun _ => [], false, -1⟩
def medAt (d : DevD) (k : Nat) : List UInt8 := d.med.getD k []
def now (d : DevD) (k : Nat) : List UInt8 := lastOr (d.cac k) (d.medAt k)
def mayE (d : DevD) (a : Int) : Int := if d.lost then 6 else if a < 0 ∨ (d.med.length : Int) ≤ a then 5 else 0
def rdS (d : DevD) (a : Int) : List UInt8 := if d.mayE a = 0 then d.now a.toNat else []
def burn (d : DevD) : DevD := { d with fuse := max (d.fuse - 1) (-1) }
def wrE (d : DevD) (a : Int) (s : List UInt8) : Int := if d.mayE a ≠ 0 then d.mayE a else if s.length ≠ 64 then 1 else if d.fuse = 0 then 6 else 0
def put (d : DevD) (k : Nat) (s : List UInt8) : DevD := { d with cac := fun j => if j = k then d.cac j ++ [s] else d.cac j }
def wr (d : DevD) (a : Int) (s : List UInt8) : DevD := if d.wrE a s = 0 then d.burn.put a.toNat s else d
def flE (d : DevD) : Int := if d.lost = true ∨ d.fuse = 0 then 6 else 0
def settled (d : DevD) : DevD := { d with med := d.med.mapIdx fun k s => lastOr (d.cac k) s, cac := fun _ => [] }
def fl (d : DevD) : DevD := if d.flE = 0 then d.burn.settled else d
def lose (d : DevD) : DevD := { d with lost := true, cac := fun _ => [] }
def fused (d : DevD) (n : Int) : DevD := { d with fuse := max n 0 }
/-- How many sectors ahead of k have something in the cache. -/
def rank (d : DevD) (k : Nat) : Nat := ((List.range k).filter fun j => !(d.cac j).isEmpty).length
/-- Which version a number tells: 0: none. -/
def vers (x : Int) (n : Nat) : Nat := ((x.tmod (n + 1) + n + 1).tmod (n + 1)).toNat
def pick (keep : List Int) (i : Nat) (l : List (List UInt8)) (s : List UInt8) : List UInt8 :=
  match keep[i]? with
  | none => s
  | some x => if 0 < vers x l.length then l.getD (vers x l.length - 1) [] else s
def crashMed (d : DevD) (keep : List Int) (m : Nat) : List (List UInt8) := d.med.mapIdx fun k s => if (d.cac k).isEmpty = false ∧ d.rank k < m then pick keep (d.rank k) (d.cac k) s else s
def crash (d : DevD) (keep : List Int) : DevD := if d.lost then d else { d with med := d.crashMed keep d.med.length, cac := fun _ => [], fuse := -1 }
/-- Byte i of a text, changed. -/
def flip (s : List UInt8) (i : Nat) (b : UInt8) : List UInt8 := s.set i (s.getD i 0 ^^^ b)
def spot (place : Int) : Nat := ((place.tmod 64 + 64).tmod 64).toNat
def spoilOk (d : DevD) (a : Int) (b : UInt8) : Bool := decide (d.mayE a = 0) && (b != 0)
def spoiled (d : DevD) (k : Nat) (s : List UInt8) : DevD := if (d.cac k).isEmpty then { d with med := d.med.set k s } else { d with cac := fun j => if j = k then (d.cac j).set ((d.cac j).length - 1) s else d.cac j }
def spoil (d : DevD) (a place : Int) (b : UInt8) : DevD := if d.spoilOk a b then d.spoiled a.toNat (flip (d.now a.toNat) (spot place) b) else d

/-- What every device keeps. -/
structure Ok (d : DevD) : Prop where
  pos : 1 ≤ d.med.length
  few : d.med.length ≤ 4096
  med : ∀ s ∈ d.med, s.length = 64
  cac : ∀ k, ∀ s ∈ d.cac k, s.length = 64
  inn : ∀ k, d.med.length ≤ k → d.cac k = []
  f1 : -1 ≤ d.fuse
  f2 : d.fuse ≤ 9223372036854775807
theorem mayE_ok {d : DevD} {a : Int} (h : d.mayE a = 0) : 0 ≤ a ∧ a < d.med.length ∧ d.lost = false := by
  unfold mayE at h
  cases hl : d.lost <;> rw [hl] at h
  · simp only [Bool.false_eq_true, if_false] at h
    split at h
    · omega
    · exact ⟨by omega, by omega, rfl⟩
  · simp at h
end DevD
end Go.Proofs.Ytkaijdnaheikeaa
