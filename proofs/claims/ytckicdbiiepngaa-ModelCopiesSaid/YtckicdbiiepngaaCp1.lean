/-
  Sets of 64 cells held against each other, and maps of texts.
-/
import Derived.Test.YtckicdbiiepngaaRdD
namespace Go.Proofs.Ytckicdbiiepngaa
set_option linter.unusedVariables false
set_option linter.unusedSimpArgs false
open Go.RowKit Go.Maps Go.Lib Go.Shelf

theorem forIn_all {P : Program} (q : Nat → Bool) (f : Nat → (Option Bool × PUnit) → Sem (ForInStep (Option Bool × PUnit))) (w : World) :
    ∀ l : List Nat, (∀ i ∈ l, ∀ s, (f i s).run P w = .ok (if q i then ForInStep.yield (none, ()) else ForInStep.done (some false, ())) w) →
    (forIn l (none, ()) f).run P w = .ok (if l.all q then (none, ()) else (some false, ())) w
  | [], _ => by simp
  | i :: l, h => by
    rw [List.forIn_cons, Sem.run_bind, h i (by simp)]
    cases hq : q i with
    | false => simp [hq, Result.andThen_ok]
    | true =>
      have ih := forIn_all q f w l (fun j hj => h j (by simp [hj]))
      simp only [hq, if_true, Result.andThen_ok, List.all_cons, Bool.true_and]
      exact ih
theorem eqIn_row {P : Program} {t e : TypeId} {n d : Nat} (hu : P.underlying t = some (.array n e)) (hs : ∀ W, (sizeOf e).run P W = .ok 1 W) (xs ys : Array Value) (q : Nat → Bool) (w : World)
    (hq : ∀ i, i < n → ∃ x y, (part e xs i).run P w = .ok x w ∧ (part e ys i).run P w = .ok y w ∧ (Op.equalIn d e x y).run P w = .ok (q i) w) :
    (Op.equalIn (d + 1) t (.agg xs) (.agg ys)).run P w = .ok ((List.range n).all q) w := by
  rw [Op.equalIn]
  simp only [Sem.run_bind, run_underlying hu, Result.andThen_ok, hs, Std.Legacy.Range.forIn_eq_forIn_range', Std.Legacy.Range.size, Nat.sub_zero, Nat.add_sub_cancel, Nat.div_one]
  rw [forIn_all q]
  · rw [← List.range_eq_range']
    simp only [Result.andThen_ok]
    cases (List.range n).all q <;> simp
  · intro i hi s
    rw [← List.range_eq_range', List.mem_range] at hi
    obtain ⟨x, y, h1, h2, h3⟩ := hq i hi
    simp only [Nat.mul_one, Sem.run_bind, h1, h2, h3, Result.andThen_ok]
    cases q i <;> simp

/-- Two sets, held against each other. -/
def setEq (a b : DT) : Bool := (List.range 32).all (fun i => has a (.int .i64 (i : Nat)) == has b (.int .i64 (i : Nat))) && (List.range 32).all (fun i => txt a (i : Nat) == txt b (i : Nat))
theorem setEq_iff (a b : DT) : setEq a b = true ↔ setL a = setL b := by
  unfold setEq
  rw [Bool.and_eq_true, List.all_eq_true, List.all_eq_true]
  constructor
  · rintro ⟨h1, h2⟩
    refine setL_ext (setL_len _) (fun i hi => ?_) (fun i hi => ?_)
    · rw [setL_b hi, eq_of_beq (h1 i (List.mem_range.2 hi))]
    · rw [setL_s hi, eq_of_beq (h2 i (List.mem_range.2 hi))]
  · intro h
    refine ⟨fun i hi => ?_, fun i hi => ?_⟩
    · have hi := List.mem_range.1 hi
      have e : (setL a)[i]? = (setL b)[i]? := by rw [h]
      rw [setL_b hi, setL_b hi] at e
      simpa using e
    · have hi := List.mem_range.1 hi
      have e : (setL a)[32 + i]? = (setL b)[32 + i]? := by rw [h]
      rw [setL_s hi, setL_s hi] at e
      simpa [str] using e
theorem ba_beq (x y : List UInt8) : ((⟨x.toArray⟩ : ByteArray) == ⟨y.toArray⟩) = (x == y) := by
  have e : ∀ a b : Array UInt8, ((⟨a⟩ : ByteArray) == ⟨b⟩) = (a == b) := fun a b => rfl
  rw [e]
  simp
theorem part_row (a : DT) (W : World) : (part 26 (setL a).toArray 0).run Try.prog W = .ok (.agg ((setL a).toArray.extract 0 32)) W ∧ (part 27 (setL a).toArray 32).run Try.prog W = .ok (.agg ((setL a).toArray.extract 32 64)) W := ⟨by kernel_rfl, by kernel_rfl⟩
theorem part_b (xs : Array Value) (i : Nat) (v : Value) (W : World) (h : xs[i]? = some v) : (part 4 xs i).run Try.prog W = .ok v W := by
  simp [part, isAgg, run_underlying Try.underlying4, h, go_sem]
theorem part_s (xs : Array Value) (i : Nat) (v : Value) (W : World) (h : xs[i]? = some v) : (part 9 xs i).run Try.prog W = .ok v W := by
  simp [part, isAgg, run_underlying Try.underlying9, h, go_sem]
theorem Try.stoodSet : Try.prog.stoodInHeld 29 = false := by kernel_rfl
theorem two_fields {fs : List Field} {n1 n2 : String} {t1 t2 o1 o2 : Nat} (h : fs.map (fun f => (f.name, f.type, f.offset)) = [(n1, t1, o1), (n2, t2, o2)]) : ∃ f1 f2, fs = [f1, f2] ∧ (f1.name = n1 ∧ f1.type = t1 ∧ f1.offset = o1) ∧ f2.name = n2 ∧ f2.type = t2 ∧ f2.offset = o2 := by
  rcases fs with _ | ⟨f1, _ | ⟨f2, _ | ⟨f3, fs⟩⟩⟩
  · simp at h
  · simp at h
  · simp only [List.map_cons, List.map_nil, List.cons.injEq, Prod.mk.injEq, and_true] at h
    exact ⟨f1, f2, rfl, h.1, h.2⟩
  · simp at h
theorem eqFields_two {P : Program} {D : Nat} {xa xb : Array Value} {x1 y1 x2 y2 : Value} {f1 f2 : Field} {q1 q2 : Bool} (w : World) (n1 : f1.name ≠ "_") (n2 : f2.name ≠ "_") (pa1 : (part f1.type xa f1.offset).run P w = .ok x1 w) (pb1 : (part f1.type xb f1.offset).run P w = .ok y1 w)
    (pa2 : (part f2.type xa f2.offset).run P w = .ok x2 w) (pb2 : (part f2.type xb f2.offset).run P w = .ok y2 w) (e1 : (Op.equalIn D f1.type x1 y1).run P w = .ok q1 w) (e2 : (Op.equalIn D f2.type x2 y2).run P w = .ok q2 w) :
    (Op.eqFields D xa xb [f1, f2]).run P w = .ok (q1 && q2) w := by
  unfold Op.eqFields
  rw [if_pos n1]
  rw [Sem.run_bind, pa1, Result.andThen_ok, Sem.run_bind, pb1, Result.andThen_ok, Sem.run_bind, e1, Result.andThen_ok]
  cases q1 with
  | false => simp
  | true =>
    simp only [if_true, Bool.not_true, Bool.false_eq_true, if_false]
    unfold Op.eqFields
    rw [if_pos n2]
    rw [Sem.run_bind, pa2, Result.andThen_ok, Sem.run_bind, pb2, Result.andThen_ok, Sem.run_bind, e2, Result.andThen_ok]
    cases q2 <;> simp [Op.eqFields]
theorem set_eq (a b : DT) (d : Nat) (w : World) : (Op.equalIn (d + 3) 29 (.agg (setL a).toArray) (.agg (setL b).toArray)).run Try.prog w = .ok (setEq a b) w := by
  rw [run_equalIn_struct w (d + 2) _ _ _ (by kernel_rfl) Try.stoodSet]
  have e1 := eqIn_row (P := Try.prog) (d := d + 1) Try.underlying26 (fun W => Try.sizeOf4 W) ((setL a).toArray.extract 0 32) ((setL b).toArray.extract 0 32) (fun i => has a (.int .i64 (i : Nat)) == has b (.int .i64 (i : Nat))) w (fun i hi => by
    refine ⟨_, _, part_b _ i (.bool (has a (.int .i64 (i : Nat)))) w ?_, part_b _ i (.bool (has b (.int .i64 (i : Nat)))) w ?_, ?_⟩
    · rw [Array.getElem?_extract, if_pos (by simp [setL_len]; omega), List.getElem?_toArray, Nat.zero_add, setL_b hi]
    · rw [Array.getElem?_extract, if_pos (by simp [setL_len]; omega), List.getElem?_toArray, Nat.zero_add, setL_b hi]
    · rw [Op.equalIn]; simp [run_underlying Try.underlying4, go_sem])
  have e2 := eqIn_row (P := Try.prog) (d := d + 1) Try.underlying27 (fun W => Try.sizeOf9 W) ((setL a).toArray.extract 32 64) ((setL b).toArray.extract 32 64) (fun i => txt a (i : Nat) == txt b (i : Nat)) w (fun i hi => by
    refine ⟨_, _, part_s _ i (str (txt a (i : Nat))) w ?_, part_s _ i (str (txt b (i : Nat))) w ?_, ?_⟩
    · rw [Array.getElem?_extract, if_pos (by simp [setL_len]; omega), List.getElem?_toArray, setL_s hi]
    · rw [Array.getElem?_extract, if_pos (by simp [setL_len]; omega), List.getElem?_toArray, setL_s hi]
    · rw [Op.equalIn]; simp [run_underlying Try.underlying9, go_sem]
      exact ba_beq _ _)
  have p1 := part_row a w
  have p2 := part_row b w
  have hf : (Try.prog.fieldsOf 29).toList.map (fun f => (f.name, f.type, f.offset)) = [("Has", 26, 0), ("Text", 27, 32)] := by kernel_rfl
  have e3 : setEq a b = ((List.range 32).all (fun i => has a (.int .i64 (i : Nat)) == has b (.int .i64 (i : Nat))) && (List.range 32).all (fun i => txt a (i : Nat) == txt b (i : Nat))) := rfl
  rw [e3]
  generalize (List.range 32).all (fun i => has a (.int .i64 (i : Nat)) == has b (.int .i64 (i : Nat))) = q1 at *
  generalize (List.range 32).all (fun i => txt a (i : Nat) == txt b (i : Nat)) = q2 at *
  clear e3
  generalize (setL a).toArray.extract 0 32 = xa1 at *
  generalize (setL a).toArray.extract 32 64 = xa2 at *
  generalize (setL b).toArray.extract 0 32 = xb1 at *
  generalize (setL b).toArray.extract 32 64 = xb2 at *
  generalize (setL a).toArray = xa at *
  generalize (setL b).toArray = xb at *
  obtain ⟨f1, f2, hfs, ⟨n1, t1, o1⟩, n2, t2, o2⟩ := two_fields hf
  rw [hfs]
  exact eqFields_two w (by rw [n1]; decide) (by rw [n2]; decide) (by rw [t1, o1]; exact p1.1) (by rw [t1, o1]; exact p2.1) (by rw [t2, o2]; exact p1.2) (by rw [t2, o2]; exact p2.2) (by rw [t1]; exact e1) (by rw [t2]; exact e2)
theorem neq_set (a b : DT) (w : World) : (binOp .neq 29 (.agg (setL a).toArray) (.agg (setL b).toArray)).run Try.prog w = .ok (.bool (!setEq a b)) w := by
  rw [run_neq_struct, set_eq a b 9997]
  simp
end Go.Proofs.Ytckicdbiiepngaa
