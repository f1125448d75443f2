/-
  Contracts of package le, second part: Pad, its reference, the document's example.
-/
import Derived.Test.YtidmbibpoldgcaaLe
import Derived.Test.YtidmbibpoldgcaaShelf
namespace Go.Proofs.Ytidmbibpoldgcaa
open Go.RowKit
set_option linter.unusedVariables false

theorem repeat_one (x : UInt8) : ∀ n, Lib.repeatL [x] n = List.replicate n x
  | 0 => rfl
  | n + 1 => by rw [Lib.repeatL, repeat_one x n]; rfl

def padN (len t : Nat) : Nat := (t - len % t) % t
def padL (l : List UInt8) (tt : Int) : List UInt8 := if 1 ≤ tt ∧ tt ≤ 4096 then l ++ List.replicate (padN l.length tt.toNat) 0 else l
theorem padN_lt {len t : Nat} (h : 1 ≤ t) : padN len t < t := Nat.mod_lt _ (by omega)

theorem pad_any (l : List UInt8) (tt : Int) (w : World) (hl : l.length ≤ 140737488351232) :
    Calls Try.prog 26 #[str l, .int .i64 tt] w fun e w' => e = .returned (str (padL l tt)) ∧ Below w.heap.size w w' := by
  by_cases h : 1 ≤ tt ∧ tt ≤ 4096
  · obtain ⟨h1, h2⟩ := h
    obtain ⟨t, rfl⟩ := Int.eq_ofNat_of_zero_le (show 0 ≤ tt by omega)
    have he : Hid (padL l t = l ++ List.replicate (padN l.length t) 0) := by unfold Hid padL; rw [if_pos ⟨h1, h2⟩]; simp
    have hk := padN_lt (len := l.length) (t := t) (by omega)
    have r1 : (0 : Int) ≤ (l.length : Int) % t := Int.emod_nonneg _ (by omega)
    have r2 : (l.length : Int) % t < t := Int.emod_lt_of_pos _ (by omega)
    have r3 : (t - (l.length : Int) % t) % t = (padN l.length t : Nat) := by
      unfold padN
      have : l.length % t < t := Nat.mod_lt _ (by omega)
      rw [Int.natCast_emod, Int.natCast_sub (by omega), Int.natCast_emod]
    have r3' : -((l.length : Int) % t) % t = (padN l.length t : Nat) := by rw [← r3]; simp
    have R3 := Lib.hid r3'
    have hd : (Lib.repeatL (⟨#[0]⟩ : ByteArray).data.toList (padN l.length t)) = List.replicate (padN l.length t) 0 := repeat_one 0 _
    have HD := Lib.hid hd
    clear r3 r3' hd
    go_enter Try.func26, Try.ntmps26
    go_wp2_with fail
    rw [R3.out]
    refine (Try.strings_Repeat ⟨#[0]⟩ (padN l.length t) _ (by omega) (by show 1 * _ ≤ _; omega)).mono ?_
    rintro e w1 ⟨rfl, hb⟩
    rw [HD.out]
    go_wp2_with fail
    go_ret
    refine ⟨?_, hb⟩
    rw [he.out]
    exact congrArg (fun b => Ending.returned (Value.string b)) (ByteArray.mk_append_mk l (List.replicate (padN l.length t) 0))
  · have he : Hid (padL l tt = l) := by unfold Hid padL; rw [if_neg h]
    go_enter Try.func26, Try.ntmps26
    go_wp2_with fail
    all_goals go_ret
    all_goals exact ⟨ret_str he.out.symm, Below.refl _ _⟩

theorem padTo_step (l : List UInt8) (t k : Nat) (h1 : 1 ≤ t) (hk : k ≤ padN l.length t) : (l.length + k) % t = 0 ↔ k = padN l.length t := by
  have hm : l.length % t < t := Nat.mod_lt _ (by omega)
  unfold padN at *
  have hd := Nat.div_add_mod l.length t
  rcases Nat.eq_zero_or_pos (l.length % t) with h0 | h0
  · rw [h0, Nat.sub_zero, Nat.mod_self] at hk ⊢
    have : k = 0 := by omega
    subst this
    simp [h0]
  · rw [Nat.mod_eq_of_lt (by omega : t - l.length % t < t)] at hk ⊢
    constructor
    · intro h
      rcases Nat.lt_or_ge k (t - l.length % t) with hlt | hge
      · have e : (l.length + k) % t = (l.length % t + k) % t := by rw [Nat.mod_add_mod]
        rw [e, Nat.mod_eq_of_lt (by omega)] at h
        omega
      · omega
    · intro h
      rw [← Nat.mod_add_mod, h, show l.length % t + (t - l.length % t) = t from by omega, Nat.mod_self]

def strLen : Value → Nat
  | .string s => s.size
  | _ => 0
end Go.Proofs.Ytidmbibpoldgcaa
