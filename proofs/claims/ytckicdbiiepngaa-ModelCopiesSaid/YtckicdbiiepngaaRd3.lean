/-
  The document's world in memory: sets of 64 cells; append; slices of slices.
-/
import Derived.Test.YtckicdbiiepngaaRd2
import Derived.Test.YtckicdbiiepngaaMod16
import Derived.Deep.MidRow
import Derived.Deep.Upon
namespace Go.Proofs.Ytckicdbiiepngaa
set_option linter.unusedVariables false
set_option linter.unusedSimpArgs false
open Go.RowKit Go.Maps Go.Lib Go.Shelf

theorem grown_refl {w : World} {r : Option Nat} : w.grownBy w r := ⟨rfl, rfl, rfl, Nat.le_refl _, fun _ _ _ => rfl⟩
theorem own_reads {w : World} {base : Nat} {e : TypeId} {size n c : Nat} {A : Option Addr} {xs : List Value} (h : w.ownsRow base e size (.slice A n c) n xs) : Reads w size A n xs := by
  refine ⟨h.1, fun hn => ?_⟩
  obtain ⟨g, cap, he, hb, hlt⟩ := h.form hn
  injection he with h1 h2 h3
  subst h1 h3
  refine ⟨g, 0, rfl, hlt, fun j u hu => ?_⟩
  have hj := (List.getElem?_eq_some_iff.1 hu).1
  rw [h.1] at hj
  rw [Nat.zero_add]
  exact (h.cellAt j hj).trans hu
theorem own_le {w : World} {base : Nat} {e : TypeId} {size n c : Nat} {A : Option Addr} {xs : List Value} (h : w.ownsRow base e size (.slice A n c) n xs) : n ≤ c := by
  rcases h.2 with ⟨he, h0⟩ | ⟨g, cap, cur, he, _, _, h1, _⟩
  · injection he with h1 h2 h3; omega
  · injection he with h4 h5 h6; omega
theorem Reads.take {w : World} {size n : Nat} {A : Option Addr} {xs : List Value} (h : Reads w size A n xs) {i : Nat} (hi : i ≤ n) : Reads w size A i (xs.take (i * size)) := by
  have hm : i * size ≤ n * size := Nat.mul_le_mul_right _ hi
  refine ⟨by rw [List.length_take, h.1]; omega, fun h0 => ?_⟩
  obtain ⟨b, off, hA, hb, hc⟩ := h.2 (by omega)
  refine ⟨b, off, hA, hb, fun j u hu => hc j u ?_⟩
  rw [List.getElem?_take] at hu
  split at hu
  · exact hu
  · cases hu
theorem Reads.drop {w : World} {size n : Nat} {b off : Nat} {xs : List Value} (h : Reads w size (some ⟨b, off, none⟩) n xs) {j : Nat} (hj : j ≤ n) {A' : Option Addr} (hA : j < n → A' = some ⟨b, off + j * size, none⟩) : Reads w size A' (n - j) (xs.drop (j * size)) := by
  have hm : (n - j) * size = n * size - j * size := Nat.sub_mul _ _ _
  refine ⟨by rw [List.length_drop, h.1, hm], fun h0 => ?_⟩
  obtain ⟨b', off', hb', hlt, hc⟩ := h.2 (by omega)
  cases hb'
  refine ⟨b, off + j * size, hA (by omega), hlt, fun k u hu => ?_⟩
  rw [List.getElem?_drop] at hu
  rw [Nat.add_assoc]
  exact hc _ u hu
/-- append of any number of elements to a row of one's own. -/
theorem app_run {P : Program} {T ty e : TypeId} {base size bytes : Nat} {i : TypeInfo} {z : Value} (ht : P.underlying T = some (.slice e)) (hi : P.info? e = some i) (hz : i.zero = some z) (hsize : i.size = size) (hby : i.bytes = bytes) (hzs : z.cells.size = size) (hsz : 0 < size)
    {w : World} {v : Value} {n : Nat} {xs : List Value} (hown : w.ownsRow base e size v n xs) (hbase : base ≤ w.heap.size) {A : Option Addr} {m c : Nat} {ys : List Value} (hr : Reads w size A m ys) (h1 : ∀ u ∈ ys, u.oneCell' = true) (few : n + m ≤ 1000) (hb : bytes ≤ 100000) :
    ∃ A' c' w', (Builtin.append_ #[T, T] ty #[v, .slice A m c]).run P w = .ok (.slice A' (n + m) c') w' ∧ w'.ownsRow base e size (.slice A' (n + m) c') (n + m) (xs ++ ys) ∧ w.grownBy w' v.ownBlock ∧ ∀ b, (Value.slice A' (n + m) c').ownBlock = some b → v.ownBlock = some b ∨ b = w.heap.size := by
  by_cases h0 : 0 < m
  · obtain ⟨b, off, rfl, hlt, hc⟩ := hr.2 h0
    have hbb : (n + m) * bytes ≤ 140737488355328 := Nat.le_trans (Nat.mul_le_mul few hb) (by decide)
    obtain ⟨g, cap, w', hrun, h2, h3, h4, _⟩ := run_append_lies (P := P) w T ty base e i z size bytes ht hi hz hsize hby hzs hsz v n xs hown ⟨b, off, none⟩ m c ys hr.1 (fun j u hu => by rw [Addr.add_mid]; exact hc j u hu) h1 h0 (by unfold maxLen; omega) hbb hbase _ rfl
    exact ⟨_, cap, w', hrun, h2, h3, fun b' hb' => by simp [Value.ownBlock] at hb'; subst hb'; exact h4⟩
  · obtain rfl : m = 0 := by omega
    have hy : ys = [] := List.length_eq_zero_iff.1 (by rw [hr.1, Nat.zero_mul])
    subst hy
    have hsrc : Src P i.size T (.slice A 0 c) 0 [] w := by
      cases A with
      | none => exact Src.ofNil w ht c
      | some a => exact Src.ofSlice w ht a 0 c [] (by simp) (fun j u h => by simp at h) (fun u h => by cases h)
    have hf : ∃ A' c', v = .slice A' n c' := own_slice hown
    obtain ⟨A', c', rfl⟩ := hf
    refine ⟨A', c', w, ?_, by rw [List.append_nil]; exact hown, grown_refl, fun b hb => .inl hb⟩
    exact run_append_nothing w T T ty e i ht hi A' n c' (own_le hown) _ hsrc

/-- A set of objects as the document has it: 64 cells. -/
def setL (o : DT) : List Value := (List.range 32).map (fun i : Nat => Value.bool (has o (.int .i64 i))) ++ (List.range 32).map (fun i : Nat => str (txt o i))
theorem setL_len (o : DT) : (setL o).length = 64 := by simp [setL]
theorem setL_b {o : DT} {i : Nat} (h : i < 32) : (setL o)[i]? = some (.bool (has o (.int .i64 i))) := by
  unfold setL; rw [List.getElem?_append_left (by simpa using h)]; simp [h]
theorem setL_s {o : DT} {i : Nat} (h : i < 32) : (setL o)[32 + i]? = some (str (txt o i)) := by
  unfold setL; rw [List.getElem?_append_right (by simp)]; simp [h]
theorem setL_ext {l : List Value} {o : DT} (hl : l.length = 64) (h1 : ∀ i, i < 32 → l[i]? = some (.bool (has o (.int .i64 (i : Nat))))) (h2 : ∀ i, i < 32 → l[32 + i]? = some (str (txt o (i : Nat)))) : l = setL o := by
  refine List.ext_getElem? fun j => ?_
  by_cases a : j < 32
  · rw [h1 j a, setL_b a]
  · by_cases b : j < 64
    · obtain ⟨k, rfl⟩ : ∃ k, j = 32 + k := ⟨j - 32, by omega⟩
      rw [h2 k (by omega), setL_s (by omega)]
    · rw [List.getElem?_eq_none (by omega), List.getElem?_eq_none (by rw [setL_len]; omega)]
theorem setL_one (o : DT) : ∀ u ∈ setL o, u.oneCell' = true := by
  intro u hu
  unfold setL at hu
  rcases List.mem_append.1 hu with h | h
  · obtain ⟨i, _, rfl⟩ := List.mem_map.1 h; rfl
  · obtain ⟨i, _, rfl⟩ := List.mem_map.1 h; rfl

/-- The document's world: 66 cells. -/
def wV (l : List Value) (A1 : Option Addr) (n1 c1 : Nat) (A2 : Option Addr) (n2 c2 : Nat) : Array Value := (l ++ [Value.slice A1 n1 c1, Value.slice A2 n2 c2]).toArray
section
variable {l : List Value} {A1 A2 : Option Addr} {n1 c1 n2 c2 : Nat}
theorem wV_size (h : l.length = 64) : (wV l A1 n1 c1 A2 n2 c2).size = 66 := by simp [wV, h]
theorem wV_lo {i : Nat} (h : l.length = 64) (hi : i < 64) : (wV l A1 n1 c1 A2 n2 c2)[i]? = l[i]? := by
  unfold wV; rw [List.getElem?_toArray, List.getElem?_append_left (by omega)]
theorem wV_64 (h : l.length = 64) : (wV l A1 n1 c1 A2 n2 c2)[64]? = some (.slice A1 n1 c1) := by
  unfold wV; rw [List.getElem?_toArray, List.getElem?_append_right (by omega), h]; rfl
theorem wV_65 (h : l.length = 64) : (wV l A1 n1 c1 A2 n2 c2)[65]? = some (.slice A2 n2 c2) := by
  unfold wV; rw [List.getElem?_toArray, List.getElem?_append_right (by omega), h]; rfl
theorem wV_one (h : ∀ u ∈ l, u.oneCell' = true) : (wV l A1 n1 c1 A2 n2 c2).all (·.oneCell') = true := by
  unfold wV
  refine all_oneCell_toArray fun u hu => ?_
  rcases List.mem_append.1 hu with h' | h'
  · exact h u h'
  · simp only [List.mem_cons, List.not_mem_nil, or_false] at h'
    rcases h' with rfl | rfl <;> rfl
theorem wV_set {i : Nat} {u : Value} (h : l.length = 64) (hi : i < 64) : (wV l A1 n1 c1 A2 n2 c2).setIfInBounds i u = wV (l.set i u) A1 n1 c1 A2 n2 c2 := by
  unfold wV
  rw [List.setIfInBounds_toArray, List.set_append_left _ _ (by omega)]
theorem wV_set64 {A : Option Addr} {n c : Nat} (h : l.length = 64) : (wV l A1 n1 c1 A2 n2 c2).setIfInBounds 64 (.slice A n c) = wV l A n c A2 n2 c2 := by
  unfold wV
  rw [List.setIfInBounds_toArray, List.set_append_right _ _ (by omega), h]; rfl
theorem wV_set65 {A : Option Addr} {n c : Nat} (h : l.length = 64) : (wV l A1 n1 c1 A2 n2 c2).setIfInBounds 65 (.slice A n c) = wV l A1 n1 c1 A n c := by
  unfold wV
  rw [List.setIfInBounds_toArray, List.set_append_right _ _ (by omega), h]; rfl
theorem wV_ext {cs : Array Value} (hl : l.length = 64) (hs : cs.size = 66) (h : ∀ i, i < 64 → cs[i]? = l[i]?) (h1 : cs[64]? = some (.slice A1 n1 c1)) (h2 : cs[65]? = some (.slice A2 n2 c2)) : cs = wV l A1 n1 c1 A2 n2 c2 := by
  refine Array.ext_getElem? fun j => ?_
  by_cases a : j < 64
  · rw [h j a, wV_lo hl a]
  · by_cases b : j = 64
    · subst b; rw [h1, wV_64 hl]
    · by_cases c : j = 65
      · subst c; rw [h2, wV_65 hl]
      · rw [Array.getElem?_eq_none (by omega), Array.getElem?_eq_none (by rw [wV_size hl]; omega)]
end
def idC (a : AllA) : List Value := a.snaps.map fun p => Value.int .i64 p.1
def snC (a : AllA) : List Value := a.snaps.flatMap fun p => setL p.2
/-- A world of the document's, in memory. -/
def RefW (w : World) (cs : Array Value) (a : AllA) : Prop :=
  ∃ A1 c1 A2 c2, cs = wV (setL a.live) A1 a.snaps.length c1 A2 a.snaps.length c2 ∧ Reads w 1 A1 a.snaps.length (idC a) ∧ Reads w 64 A2 a.snaps.length (snC a) ∧ a.snaps.length ≤ c1 ∧ a.snaps.length ≤ c2
theorem RefW.below {w w' : World} {cs : Array Value} {a : AllA} (h : RefW w cs a) (hb : Below w.heap.size w w') : RefW w' cs a := by
  obtain ⟨A1, c1, A2, c2, h1, h2, h3, h4⟩ := h
  exact ⟨A1, c1, A2, c2, h1, h2.below hb (Nat.le_refl _), h3.below hb (Nat.le_refl _), h4⟩

/-- What the model's maps come to. -/
theorem has_put_key {D : DT} (hD : IsMap D) (k i : Int) (d : DT) : has (D.put (.int .i64 k) d) (.int .i64 i) = if i = k then true else has D (.int .i64 i) := by
  split
  · rename_i h; subst h; exact has_put_same hD (keyLit _) d
  · rename_i h; exact has_put_other (fun e => h (by injection e)) d
theorem txt_put_key {D : DT} (hD : IsMap D) (k i : Int) (s : List UInt8) : txt (D.put (.int .i64 k) (.lit (.string s))) i = if i = k then s else txt D i := by
  split
  · rename_i h; subst h; exact txt_put hD _ s
  · rename_i h; unfold txt; rw [atKey_put_other (fun e => h (by injection e))]
theorem has_del_key (D : DT) (k i : Int) : has (D.del (.int .i64 k)) (.int .i64 i) = if i = k then false else has D (.int .i64 i) := by
  split
  · rename_i h; subst h; exact has_del_same
  · rename_i h; exact has_del_other (fun e => h (by injection e))
theorem txt_del_key (D : DT) (k i : Int) : txt (D.del (.int .i64 k)) i = if i = k then [] else txt D i := by
  split
  · rename_i h; subst h; unfold txt; rw [atKey_del_same]
  · rename_i h; unfold txt; rw [atKey_del_other (fun e => h (by injection e))]
theorem setL_put {D : DT} (hD : IsMap D) {k : Nat} (hk : k < 32) (s : List UInt8) : setL (D.put (.int .i64 k) (.lit (.string s))) = ((setL D).set k (.bool true)).set (32 + k) (str s) := by
  refine (setL_ext (by simp [setL_len]) (fun i hi => ?_) (fun i hi => ?_)).symm
  · rw [List.getElem?_set_ne (by omega), List.getElem?_set, has_put_key hD, setL_b hi]
    by_cases e : k = i
    · subst e; simp [setL_len]; omega
    · rw [if_neg e, if_neg (by omega)]
  · rw [List.getElem?_set, List.getElem?_set_ne (by omega), txt_put_key hD, setL_s hi]
    by_cases e : k = i
    · subst e; simp [setL_len]; omega
    · rw [if_neg (by omega), if_neg (by omega)]
theorem setL_del {D : DT} {k : Nat} (hk : k < 32) : setL (D.del (.int .i64 k)) = ((setL D).set k (.bool false)).set (32 + k) (str []) := by
  refine (setL_ext (by simp [setL_len]) (fun i hi => ?_) (fun i hi => ?_)).symm
  · rw [List.getElem?_set_ne (by omega), List.getElem?_set, has_del_key, setL_b hi]
    by_cases e : k = i
    · subst e; simp [setL_len]; omega
    · rw [if_neg e, if_neg (by omega)]
  · rw [List.getElem?_set, List.getElem?_set_ne (by omega), txt_del_key, setL_s hi]
    by_cases e : k = i
    · subst e; simp [setL_len]; omega
    · rw [if_neg (by omega), if_neg (by omega)]
theorem setL_put_has {D : DT} (hD : IsMap D) {k : Nat} (hk : k < 32) (hh : has D (.int .i64 k) = true) (s : List UInt8) : setL (D.put (.int .i64 k) (.lit (.string s))) = (setL D).set (32 + k) (str s) := by
  rw [setL_put hD hk]
  congr 1
  refine List.ext_getElem? fun j => ?_
  rw [List.getElem?_set]
  split
  · rename_i e; subst e
    rw [setL_b hk, hh, setL_len, if_pos (by omega)]
  · rfl
end Go.Proofs.Ytckicdbiiepngaa
