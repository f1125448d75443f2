/-
  The walk of PtrOrder.
-/
import Derived.Test.YtnagcmfecggllaaDoorPtr3
namespace Go.Proofs.YtnagcmfecggllaaDoor
open Go.RowKit
set_option linter.unusedVariables false

theorem ptrZ_ok : ptrZ.Ok := by unfold PtrD.Ok ptrZ; decide
theorem awake9_any (w : World) : Calls Tryd.prog 5 #[] w fun e w' => e = .returned (.bool true) ∧ Below w.heap.size w w' := by
  have hl : layOk ptrZ = true := by decide
  have hp : ptrL ptrZ = List.replicate 64 0 := by decide +kernel
  have HB := Lib.hid (pbytes_any ptrZ · ptrZ_ok)
  rw [hl, if_pos rfl, if_pos rfl] at HB
  have HZ := Lib.hid fun W => zeros_any (ptrL ptrZ) W (by rw [hp]; simp)
  have hz : allZ (ptrL ptrZ) = true := by rw [hp]; decide
  have hlen : (ptrL ptrZ).length = 64 := by rw [hp]; rfl
  rw [hz] at HZ
  have HLN := Lib.hid hlen
  have h1 : (ptrL ptrZ).length ≤ 64 := Nat.le_of_eq hlen
  have h2 : ((ptrL ptrZ).length == 64) = true := by rw [hlen]; rfl
  have h3 : (((ptrL ptrZ).length : Int) == 64) = true := by rw [hlen]; rfl
  clear hp hz hl hlen
  generalize ptrL ptrZ = s at *
  go_enter Tryd.func5, Tryd.ntmps5
  go_wp2_with fail
  refine (HB.out _).mono ?_
  rintro e w1 ⟨rfl, hb1⟩
  go_wp2_with fail
  refine (HZ.out _).mono ?_
  rintro e w2 ⟨rfl, rfl⟩
  go_wp2_with fail
  go_ret
  exact ⟨rfl, hb1⟩

theorem lessB_eq (p q : PtrD) : lessB p q = decide (p.birth < q.birth ∨ p.birth = q.birth ∧ (p.ag < q.ag ∨ p.ag = q.ag ∧ p.aa < q.aa)) := by
  unfold lessB
  congr 1
  simp only [orL, cmpInt]
  rw [eq_iff_iff]
  rcases Int.lt_trichotomy p.birth q.birth with h1 | h1 | h1 <;> rcases Int.lt_trichotomy p.ag q.ag with h2 | h2 | h2 <;> rcases Int.lt_trichotomy p.aa q.aa with h3 | h3 | h3 <;>
    (repeat' split) <;> omega

end Go.Proofs.YtnagcmfecggllaaDoor
