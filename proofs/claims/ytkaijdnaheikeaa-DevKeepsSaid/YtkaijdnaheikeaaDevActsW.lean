/-
  The walk of few; what the laws on acts need.
-/
import Derived.Test.YtkaijdnaheikeaaDevVersionsW
import Derived.Test.YtkaijdnaheikeaaEff
namespace Go.Proofs.Ytkaijdnaheikeaa
set_option linter.unusedVariables false
set_option linter.unusedSimpArgs false
open Go.RowKit

theorem ActArg.get {w w' : World} {b o n c : Nat} {l : List ActD} (h : ActArg w (.slice (some ⟨b, o, none⟩) n c) l) {i : Nat} {x : ActD} (hx : l[i]? = some x) (hb : Below w.heap.size w w') :
    w'.cell? ⟨b, o + i * 5, none⟩ = some (.int .u8 x.do_) ∧ w'.cell? ⟨b, o + i * 5 + 1, none⟩ = some (.int .i64 x.at_) ∧ w'.cell? ⟨b, o + i * 5 + 2, none⟩ = some (.int .i64 x.n) ∧ w'.cell? ⟨b, o + i * 5 + 3, none⟩ = some (.int .u8 x.fill.toNat) ∧
    x.do_ ≤ 255 ∧ (-9223372036854775808 ≤ x.at_ ∧ x.at_ ≤ 9223372036854775807) ∧ (-9223372036854775808 ≤ x.n ∧ x.n ≤ 9223372036854775807) := by
  obtain ⟨A', c', he, _, hcell⟩ := h.below hb
  injection he with h1 h2 h3
  obtain ⟨b', o', rfl, _, hcell⟩ := hcell (by have := (List.getElem?_eq_some_iff.1 hx).1; omega)
  injection h1 with h1
  injection h1 with h4 h5
  subst h4 h5
  obtain ⟨x0, x1, x2, x3, _, y0, y1, y2, _⟩ := hcell i x hx
  exact ⟨x0, x1, x2, x3, y0, y1, y2⟩
theorem u8_of {n : Nat} (h : n ≤ 255) : ∃ u : UInt8, n = u.toNat := ⟨UInt8.ofNat n, by rw [UInt8.toNat_ofNat', Nat.mod_eq_of_lt (by omega)]⟩
theorem mod_eq {a q : Nat} (n : Nat) (h : a % n = q) : (a : Int).tmod (n : Int) = (q : Int) := (IntWalk.up_tmod rfl rfl).trans (by rw [h])

set_option maxRecDepth 20000 in
theorem few_any (v : Value) (l : List ActD) (w : World) (hl : ActArg w v l) : Calls Try.prog 10 #[v] w fun e w' => ∃ b : Bool, e = .returned (.bool b) ∧ (b = true → l.length ≤ 80) ∧ w = w' := by
  have HARG := Lib.hid hl
  obtain ⟨A, c, rfl, hlm, _⟩ := hl
  go_enter Try.func10, Try.ntmps10
  go_wp2_with fail
  go_loopw [3] (fun i wr => ∃ k : Nat, k ≤ l.length ∧ k ≤ 81 ∧ i = .int .i64 k ∧ w = wr) (fun i _ => l.length - (intOf i).toNat)
  case atStart => exact ⟨0, Nat.zero_le _, by omega, rfl, rfl⟩
  case round =>
    obtain ⟨k, hk, hk81, rfl, rfl⟩ := hrel
    by_cases hlt : k < l.length
    · by_cases h80 : k ≤ 80
      · obtain ⟨A', c', he, _, hcell⟩ := HARG.out
        cases he
        obtain ⟨b, o, rfl, _, hcell⟩ := hcell (by omega)
        obtain ⟨x, hx⟩ : ∃ x, l[k]? = some x := ⟨_, List.getElem?_eq_getElem hlt⟩
        obtain ⟨_, _, _, _, ⟨A4, c4, hc4⟩, _, _, _, hkl⟩ := hcell k x hx
        have hdc : decide (k < l.length) = true := decide_eq_true hlt
        have hd80 : decide (k ≤ 80) = true := decide_eq_true h80
        clear hcell hx
        by_cases hb : 80 < x.kl
        · go_wp2_with fail
          go_ret
          exact ⟨false, rfl, (fun h => Bool.noConfusion h), rfl⟩
        · go_wp2_with fail
          go_roundw
          case rel => exact ⟨k + 1, by omega, by omega, by go_num, trivial⟩
          case measure => simp [intOf]; omega
      · have hdc : decide (k < l.length) = true := decide_eq_true hlt
        have hd80 : decide (k ≤ 80) = false := decide_eq_false h80
        have hd81 : decide (l.length ≤ 80) = false := decide_eq_false (by omega)
        go_wp2_with fail
        go_ret
        exact ⟨_, rfl, (fun h => by first | (simpa using h) | (have := of_decide_eq_true h; omega)), rfl⟩
    · have hdc : decide (k < l.length) = false := decide_eq_false hlt
      go_wp2_with fail
      go_ret
      exact ⟨_, rfl, (fun h => by first | (simpa using h) | (have := of_decide_eq_true h; omega)), rfl⟩
end Go.Proofs.Ytkaijdnaheikeaa
