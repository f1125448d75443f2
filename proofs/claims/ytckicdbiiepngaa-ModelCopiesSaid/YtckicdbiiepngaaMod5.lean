/-
  Package model: may, has, Remove; Fill and Count of the document.
-/
import Derived.Test.YtckicdbiiepngaaMod4
import Derived.Laws.MakeOwn
import Derived.Laws.OwnMore
import Derived.Laws.IdiomStrings
namespace Go.Proofs.Ytckicdbiiepngaa
set_option linter.unusedVariables false
set_option linter.unusedSimpArgs false
open Go.RowKit Go.Maps Go.Lib Go.Shelf

/-- The text at a number. -/
def txt (D : DT) (k : Int) : List UInt8 :=
  match D.atKey (.int .i64 k) (.lit (.string [])) with
  | .lit (.string s) => s
  | _ => []
theorem str_data (s : ByteArray) : Value.string s = str s.data.toList := by simp [str]
section
variable {w : World} {b N : Nat} {D : DT} {k : Int}
theorem MapT.look (h : MapT w b N D) (hk : wfz k) : (Instr.lookup 57 (.map (some b)) (.int .i64 k) false).run Try.prog w = .ok (str (txt D k)) w ∧ (txt D k).length ≤ 16384 := by
  obtain ⟨v, ps, hr, hv⟩ := World.ownsMap.lookup h kint Try.underlying57 (zero_string w) (rt_str [] (by simp)) (keyOf_int_mk Try.underlying3 hk)
  obtain ⟨s, rfl, hs, e, _⟩ := rt_some hv
  have ht : txt D k = s.data.toList := by unfold txt; rw [e]
  rw [ht]
  exact ⟨by rw [hr, str_data], by rw [Array.length_toList]; exact hs⟩
theorem MapT.look_ok (h : MapT w b N D) (hk : wfz k) : (Instr.lookup 57 (.map (some b)) (.int .i64 k) true).run Try.prog w = .ok (.tuple #[str (txt D k), .bool (has D (.int .i64 k))]) w ∧ (txt D k).length ≤ 16384 := by
  obtain ⟨v, ps, hr, hv⟩ := World.ownsMap.look_ok h kint Try.underlying57 (zero_string w) (rt_str [] (by simp)) (keyOf_int_mk Try.underlying3 hk)
  obtain ⟨s, rfl, hs, e, _⟩ := rt_some hv
  have ht : txt D k = s.data.toList := by unfold txt; rw [e]
  rw [ht]
  exact ⟨by rw [hr, str_data], by rw [Array.length_toList]; exact hs⟩
theorem txt_put (h : IsMap D) (k : Int) (s : List UInt8) : txt (D.put (.int .i64 k) (.lit (.string s))) k = s := by
  unfold txt; rw [atKey_put_same h (keyLit k)]
theorem MapT.isMap (h : MapT w b N D) : IsMap D := World.ownsMap.isMap h
end

def mayE (id : Int) : Int := if id < 0 ∨ 32 ≤ id then 1 else 0
theorem mayE_ok {id : Int} (h : mayE id = 0) : 0 ≤ id ∧ id < 32 := by
  unfold mayE at h
  split at h
  · omega
  · omega
theorem may_any (b : Nat) (id : Int) (w : World) : Calls Try.prog 34 #[.pointer (some ⟨b, 0, none⟩), .int .i64 id] w fun e w' => e = .returned (.int .i64 (mayE id)) ∧ w = w' := by
  go_enter Try.func34, Try.ntmps34
  by_cases h1 : id < 0
  · have hm : mayE id = 1 := by unfold mayE; rw [if_pos (.inl h1)]
    rw [hm]
    have hd : decide (id < 0) = true := decide_eq_true h1
    go_wp2_with fail
    go_ret
    exact ⟨rfl, rfl⟩
  · by_cases h2 : 32 ≤ id
    · have hm : mayE id = 1 := by unfold mayE; rw [if_pos (.inr h2)]
      rw [hm]
      have hd : decide (id < 0) = false := decide_eq_false h1
      have hd2 : decide (32 ≤ id) = true := decide_eq_true h2
      go_wp2_with fail
      go_ret
      exact ⟨rfl, rfl⟩
    · have hm : mayE id = 0 := by unfold mayE; rw [if_neg (by omega)]
      rw [hm]
      have hd : decide (id < 0) = false := decide_eq_false h1
      have hd2 : decide (32 ≤ id) = false := decide_eq_false h2
      go_wp2_with fail
      go_ret
      exact ⟨rfl, rfl⟩
theorem may_nil (id : Int) (w : World) : Calls Try.prog 34 #[.pointer none, .int .i64 id] w fun e w' => e = .returned (.int .i64 11) ∧ w = w' := by
  go_enter Try.func34, Try.ntmps34
  go_wp2_with fail
  go_ret
  exact ⟨rfl, rfl⟩

def hasE (D : DT) (id : Int) : Int := if mayE id ≠ 0 then mayE id else if has D (.int .i64 id) then 0 else 7
theorem has_any {w : World} {b m : Nat} {cs : Array Value} {N : Nat} {D : DT} (hb : Blk w b 63 cs) (h0 : cs[0]? = some (.map (some m))) (hm : MapT w m N D) (id : Int) :
    Calls Try.prog 43 #[.pointer (some ⟨b, 0, none⟩), .int .i64 id] w fun e w' => e = .returned (.int .i64 (hasE D id)) ∧ w = w' := by
  have c0 := hb.at_ h0
  have hh : hasE D id = if mayE id ≠ 0 then mayE id else if has D (.int .i64 id) then 0 else 7 := rfl
  have HM := Lib.hid hm
  clear hb h0 hm
  generalize hasE D id = r at *
  go_enter Try.func43, Try.ntmps43
  have HH := Lib.hid hh
  clear hh
  go_wp2_with fail
  refine (may_any b id w).mono ?_
  rintro e w1 ⟨rfl, rfl⟩
  by_cases hz : mayE id = 0
  · have hz2 := hz
    have hr := HH.out
    rw [if_neg (by simpa using hz)] at hr
    have hl := (MapT.look_ok HM.out (k := id) (wfz_in (by have := mayE_ok hz; omega) (by have := mayE_ok hz; omega))).1
    rw [hz]
    clear HH HM hz2
    cases hD : has D (.int .i64 id) with
    | true =>
      rw [hD] at hl
      rw [hD, if_pos rfl] at hr
      subst hr
      clear hD hz
      go_wp2_with fail
      go_ret
      exact ⟨rfl, rfl⟩
    | false =>
      rw [hD] at hl
      rw [hD] at hr
      have hr7 : r = 7 := hr
      subst hr7
      clear hr hD hz
      go_wp2_with fail
      go_ret
      exact ⟨rfl, rfl⟩
  · have hr := HH.out
    rw [if_pos hz] at hr
    have hm1 : mayE id = 1 := by unfold mayE at hz ⊢; split at hz <;> simp_all
    rw [hm1] at hr
    rw [hm1]
    subst hr
    clear HH HM hz hm1
    go_wp2_with fail
    go_ret
    exact ⟨rfl, rfl⟩
theorem has_nil (id : Int) (w : World) : Calls Try.prog 43 #[.pointer none, .int .i64 id] w fun e w' => e = .returned (.int .i64 11) ∧ w = w' := by
  go_enter Try.func43, Try.ntmps43
  go_wp2_with fail
  refine (may_nil id w).mono ?_
  rintro e w1 ⟨rfl, rfl⟩
  go_wp2_with fail
  go_ret
  exact ⟨rfl, rfl⟩
theorem remove_nil (id : Int) (w : World) : Calls Try.prog 24 #[.pointer none, .int .i64 id] w fun e w' => e = .returned (.int .i64 11) ∧ w = w' := by
  go_enter Try.func24, Try.ntmps24
  go_wp2_with fail
  refine (has_nil id w).mono ?_
  rintro e w1 ⟨rfl, rfl⟩
  go_wp2_with fail
  go_ret
  exact ⟨rfl, rfl⟩
end Go.Proofs.Ytckicdbiiepngaa
