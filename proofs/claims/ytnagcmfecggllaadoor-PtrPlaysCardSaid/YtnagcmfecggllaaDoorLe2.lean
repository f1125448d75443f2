/-
  Contracts of package le, second part: Pad, its reference, the document's example.
-/
import Derived.Test.YtnagcmfecggllaaDoorLe
import Derived.Test.YtnagcmfecggllaaDoorShelf
namespace Go.Proofs.YtnagcmfecggllaaDoor
open Go.RowKit
set_option linter.unusedVariables false

theorem repeat_one (x : UInt8) : ∀ n, Lib.repeatL [x] n = List.replicate n x
  | 0 => rfl
  | n + 1 => by rw [Lib.repeatL, repeat_one x n]; rfl

def padN (len t : Nat) : Nat := (t - len % t) % t
def padL (l : List UInt8) (tt : Int) : List UInt8 := if 1 ≤ tt ∧ tt ≤ 4096 then l ++ List.replicate (padN l.length tt.toNat) 0 else l
theorem padN_lt {len t : Nat} (h : 1 ≤ t) : padN len t < t := Nat.mod_lt _ (by omega)

theorem pad_any (l : List UInt8) (tt : Int) (w : World) (hl : l.length ≤ 140737488351232) :
    Calls Tryd.prog 17 #[str l, .int .i64 tt] w fun e w' => e = .returned (str (padL l tt)) ∧ Below w.heap.size w w' := by
  by_cases h : 1 ≤ tt ∧ tt ≤ 4096
  · obtain ⟨h1, h2⟩ := h
    obtain ⟨t, rfl⟩ := Int.eq_ofNat_of_zero_le (show 0 ≤ tt by omega)
    have he : Hid (padL l t = l ++ List.replicate (padN l.length t) 0) := by unfold Hid padL; rw [if_pos ⟨h1, h2⟩]; simp
    have hk := padN_lt (len := l.length) (t := t) (by omega)
    have r1 : (0 : Int) ≤ (l.length : Int) % t := Int.emod_nonneg _ (by omega)
    have r2 : (l.length : Int) % t < t := Int.emod_lt_of_pos _ (by omega)
    have r3 : (t - (l.length : Int) % t) % t = (padN l.length t : Nat) := by
      unfold padN
      have : l.length % t < t := Nat.mod_lt _ (by omega)
      rw [Int.natCast_emod, Int.natCast_sub (by omega), Int.natCast_emod]
    have r3' : -((l.length : Int) % t) % t = (padN l.length t : Nat) := by rw [← r3]; simp
    have R3 := Lib.hid r3'
    have hd : (Lib.repeatL (⟨#[0]⟩ : ByteArray).data.toList (padN l.length t)) = List.replicate (padN l.length t) 0 := repeat_one 0 _
    have HD := Lib.hid hd
    clear r3 r3' hd
    go_enter Tryd.func17, Tryd.ntmps17
    go_wp2_with fail
    rw [R3.out]
    refine (Tryd.strings_Repeat ⟨#[0]⟩ (padN l.length t) _ (by omega) (by show 1 * _ ≤ _; omega)).mono ?_
    rintro e w1 ⟨rfl, hb⟩
    rw [HD.out]
    go_wp2_with fail
    go_ret
    refine ⟨?_, hb⟩
    rw [he.out]
    exact congrArg (fun b => Ending.returned (Value.string b)) (ByteArray.mk_append_mk l (List.replicate (padN l.length t) 0))
  · have he : Hid (padL l tt = l) := by unfold Hid padL; rw [if_neg h]
    go_enter Tryd.func17, Tryd.ntmps17
    go_wp2_with fail
    all_goals go_ret
    all_goals exact ⟨ret_str he.out.symm, Below.refl _ _⟩

theorem padTo_step (l : List UInt8) (t k : Nat) (h1 : 1 ≤ t) (hk : k ≤ padN l.length t) : (l.length + k) % t = 0 ↔ k = padN l.length t := by
  have hm : l.length % t < t := Nat.mod_lt _ (by omega)
  unfold padN at *
  have hd := Nat.div_add_mod l.length t
  rcases Nat.eq_zero_or_pos (l.length % t) with h0 | h0
  · rw [h0, Nat.sub_zero, Nat.mod_self] at hk ⊢
    have : k = 0 := by omega
    subst this
    simp [h0]
  · rw [Nat.mod_eq_of_lt (by omega : t - l.length % t < t)] at hk ⊢
    constructor
    · intro h
      rcases Nat.lt_or_ge k (t - l.length % t) with hlt | hge
      · have e : (l.length + k) % t = (l.length % t + k) % t := by rw [Nat.mod_add_mod]
        rw [e, Nat.mod_eq_of_lt (by omega)] at h
        omega
      · omega
    · intro h
      rw [← Nat.mod_add_mod, h, show l.length % t + (t - l.length % t) = t from by omega, Nat.mod_self]

def strLen : Value → Nat
  | .string s => s.size
  | _ => 0
theorem refPad_any (l : List UInt8) (tt : Int) (w : World) (hl : l.length ≤ 140737488351232) :
    Calls Tryd.prog 25 #[str l, .int .i64 tt] w fun e w' => e = .returned (str (padL l tt)) ∧ Below w.heap.size w w' := by
  by_cases h : 1 ≤ tt ∧ tt ≤ 4096
  · obtain ⟨h1, h2⟩ := h
    obtain ⟨t, rfl⟩ := Int.eq_ofNat_of_zero_le (show 0 ≤ tt by omega)
    have he : Hid (padL l t = l ++ List.replicate (padN l.length t) 0) := by unfold Hid padL; rw [if_pos ⟨h1, h2⟩]; simp
    have hk := padN_lt (len := l.length) (t := t) (by omega)
    go_enter Tryd.func25, Tryd.ntmps25
    go_wp2_with fail
    go_loop [0] (fun v => ∃ k : Nat, k ≤ padN l.length t ∧ v = str (l ++ List.replicate k 0)) (fun v => padN l.length t - (strLen v - l.length))
    case atStart => exact ⟨0, Nat.zero_le _, by simp⟩
    case round =>
      obtain ⟨k, hk2, rfl⟩ := hrel
      have hs := padTo_step l t k (by omega) hk2
      have hml : (l ++ List.replicate k (0 : UInt8)).length = l.length + k := by simp
      have hcast : (((l ++ List.replicate k (0 : UInt8)).length : Int) % t) = ((l.length + k) % t : Nat) := by rw [hml]; simp
      have hmb : (l ++ List.replicate k (0 : UInt8)).length ≤ 140737488355400 := by rw [hml]; omega
      have hnext : (l ++ List.replicate k (0 : UInt8)) ++ [0] = l ++ List.replicate (k + 1) 0 := by rw [List.append_assoc, ← List.replicate_succ']
      by_cases hlt : k < padN l.length t
      · have hq : ((((l ++ List.replicate k (0 : UInt8)).length : Int) % t) != 0) = true := by
          rw [hcast, bne_iff_ne]; intro h; have := hs.1 (by exact_mod_cast h); omega
        have HN := Lib.hid hnext
        have HM := Lib.hid hml
        clear hs hcast hnext hml
        generalize l ++ List.replicate k (0 : UInt8) = m at *
        go_wp2_with fail
        go_round
        case rel =>
          refine ⟨k + 1, by omega, ?_⟩
          rw [← HN.out]
          exact congrArg Value.string (ByteArray.mk_append_mk m [0])
        case measure =>
          have e : strLen (Value.string ({ data := m.toArray } ++ { data := #[0] })) = m.length + 1 := by simp [strLen, ByteArray.size]
          have e2 : strLen (str m) = m.length := by simp [strLen, ByteArray.size]
          have := HM.out
          omega
      · have hq : ((((l ++ List.replicate k (0 : UInt8)).length : Int) % t) != 0) = false := by
          rw [hcast, bne_eq_false_iff_eq]; exact_mod_cast hs.2 (by omega)
        have hkN : k = padN l.length t := by omega
        have HE := Lib.hid hkN
        clear hs hcast hnext hml hkN
        generalize hm : l ++ List.replicate k (0 : UInt8) = m at *
        have HM := Lib.hid hm
        clear hm
        go_wp2_with fail
        go_ret
        exact ⟨ret_str (by rw [he.out, ← HM.out, HE.out]), Below.refl _ _⟩
  · have he : Hid (padL l tt = l) := by unfold Hid padL; rw [if_neg h]
    go_enter Tryd.func25, Tryd.ntmps25
    go_wp2_with fail
    all_goals go_ret
    all_goals exact ⟨ret_str he.out.symm, Below.refl _ _⟩

end Go.Proofs.YtnagcmfecggllaaDoor
