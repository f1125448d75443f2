/-
  For every input the law answers true, and its arguments read afterwards as before; the library tables that the row lists are tied to the program text (the given tie). No conditions.
-/
import Derived.Test.YtblmjaenoleaaaaDoorLawS
import Derived.Test.YtblmjaenoleaaaaDoorLeNilW
import Derived.Test.YtblmjaenoleaaaaDoorCards
import Derived.Test.YtblmjaenoleaaaaDoorTie
import Derived.Test.YtblmjaenoleaaaaDoorLawD
namespace Go.Proofs.YtblmjaenoleaaaaDoor
open Go.ChangeShapes Go.WideShapes Go.ChangeAt Go.RowKit Go.ChangeMaps
set_option linter.unusedVariables false

theorem leNil_contract (H : Type) (enc : TypeId × Value → H) (W : World) (base : Nat) (args : Array Value) (ds gs : List (DataW H)) (before : List MemPlace)
    (hval : ∀ (j : Nat) t v, Tryd.f3.params[j]? = some t → args[j]? = some v → Value.okWide Tryd.prog W .any base t v)
    (hW : DataW.Whole enc Tryd.prog Tryd.f3.params.toList Rows.leNilSpec.vars false W args.toList ds gs before) :
    Calls Tryd.prog 3 args W fun e W' => ∃ v, e = .returned v ∧ Rows.leNilSpec.post enc Tryd.prog Tryd.f3 false true false false W args v W' := by
  have hW' := hW
  have hlt : ∀ q ∈ before, q.block < W.heap.size := fun q hq => hW.lt q hq
  obtain ⟨p, q, hA0, hV, rfl, hfz, hnd⟩ := hW
  have hltA : ∀ x ∈ p, x.block < W.heap.size := fun x hx => hlt x (List.mem_append_left _ hx)
  have hA : DataW.TrodAll enc Tryd.prog W 0 (fun _ => true) true Tryd.f3.params.toList args.toList ds p := hA0
  have hA' := hA
  rw [Tryd.params3] at hA hval
  obtain ⟨v0, vs0, d0, ds0, p0, q0, hargs, rfl, rfl, h0, r0⟩ := trodAll_cons hA
  obtain ⟨rfl, rfl, rfl⟩ := trodAll_nil r0
  obtain rfl : args = #[v0] := by cases args; simp_all
  obtain ⟨rfl, rfl⟩ := trodVars_none hV
  simp only [List.append_nil] at hlt hW'
  obtain ⟨a0, rfl, rfl, rfl, w0⟩ := open_int Tryd.underlying3 (hval 0 _ v0 rfl rfl) h0
  have b0 := i64_bd w0
  clear hA0
  refine (nilLaw_any a0 W b0.1 b0.2).mono fun e W' ⟨he, hb⟩ => ?_
  subst he
  exact ⟨_, rfl, post_of_below (pv := []) hW' (fun _ _ _ => trodAll_cons_mk (shut_bool Tryd.underlying4 _) trodAll_mk0)
    (fun sp hsp => args_again Tryd.laidOut hb sp (by rw [Tryd.params3]; intro t ht; have ht' : t ∈ ([3] : List Nat) := ht; simp only [List.mem_cons, List.not_mem_nil, or_false] at ht'; subst ht'; exact ⟨by kernel_rfl, of_decide_eq_true (by kernel_rfl)⟩) hA' hltA (fun x hx => hsp x (by first | (simp at hx; done) | simpa using hx)))
    (fun _ _ => rfl) (by simp) hb (ok_one (by kernel_rfl) rfl (okWide_bool_mk Tryd.underlying4 _))⟩

theorem leNil_met (os : Os) : laidMet Tryd.prog Rows.leNilRow.laid ((laidWorld os).forCall (fun _ _ => 0) ⟨#[], #[.int .i64 0], []⟩).memory :=
  laidMet_of_run' 8 (by kernel_rfl) (by kernel_rfl)
theorem leNil_reads (os : Os) {H : Type} (enc : TypeId × Value → H) : ∃ places, DataW.whole enc Tryd.prog ((laidWorld os).forCall (fun _ _ => 0) ⟨#[], #[.int .i64 0], []⟩).memory Tryd.f3.params.toList Rows.leNilSpec.vars false #[(.int .i64 0 : Value)].toList 8 = some ([.lit (.int .i64 0)], [], places) :=
  ⟨[], by kernel_rfl⟩

set_option maxRecDepth 100000 in
theorem leNil_lifted (os : Os) (started : os.Started) (H : Type) (enc : TypeId × Value → H) (F : Stop.Interp) :
    ReturnsInHanded {} Tryd.checked os 3 .any ((OpenSpec.ofChange Rows.leNilSpec).preRow enc Tryd.prog Tryd.f3 Rows.leNilRow.domain false Rows.leNilRow.laid) (((OpenSpec.ofChange Rows.leNilSpec).at F).post enc Tryd.prog Tryd.f3 false true false false) := by
  obtain ⟨places, hx⟩ := leNil_reads os enc
  refine returnsInHanded_of_row (C := Tryd.checked) (s := OpenSpec.ofChange Rows.leNilSpec) Tryd.own started (by kernel_rfl) Tryd.func3
    (witness_row_at (enc := enc) (C := Tryd.checked) false (laidWorld os) #[(.int .i64 0 : Value)] rfl (by kernel_rfl) (by kernel_rfl) (by kernel_rfl)
      (OpenSpec.preRow_of_cond 8 hx (by kernel_rfl) (fun k hk => by cases hk) (by kernel_rfl) (leNil_met os))) ?_
  intro W base args ds gs before hval hW _ _ _ hL _ _
  exact leNil_contract H enc W base args ds gs before hval hW

theorem leNil_said : Rows.LeNilSaid :=
  OpenClaim.holds_of_cond 3 Tryd.f3 rfl rfl rfl rfl rfl rfl rfl ⟨rfl, rfl, rfl, rfl, rfl⟩ rfl rfl rfl rfl rfl (by kernel_rfl) Tryd.func3 (by kernel_rfl)
    (of_decide_eq_true (by kernel_rfl)) (by unfold Func.isWrapper; first | (rw [if_pos (by decide +kernel)]; kernel_rfl) | (rw [if_neg (by decide +kernel)]; exact ⟨rfl, rfl⟩))
    (fun os started H enc _ F => by rw [OpenClaim.pre_eq_preRow]; exact leNil_lifted os started H enc F)

theorem leNil_plain (f : FuncId) (fn : Func) (hf : Tryd.pinned.checked.prog.funcNamed "polder/polderlaw01.LeNil" = some f) (hfn : Tryd.pinned.checked.prog.funcs[f]? = some fn) :
    false = Tryd.pinned.checked.prog.looks [] ∧ ∀ (j : Nat) t, fn.params[j]? = some t → Tryd.pinned.checked.prog.wantsStandIn t = false := by
  obtain rfl : f = 3 := Option.some.inj ((show Tryd.prog.funcNamed "polder/polderlaw01.LeNil" = some 3 by kernel_rfl).symm.trans hf) |>.symm
  obtain rfl : fn = Tryd.f3 := (Option.some.inj (Tryd.func3.symm.trans hfn)).symm
  refine ⟨by kernel_rfl, fun j t ht => ?_⟩
  rw [Tryd.params3] at ht
  have hm : t ∈ [3] := by simpa using Array.mem_of_getElem? ht
  simp only [List.mem_cons, List.not_mem_nil, or_false] at hm
  subst hm
  · exact (show Tryd.prog.wantsStandIn 3 = false by kernel_rfl)

theorem leNil_card : Rows.LeNilCardSaid :=
  Claim7.holds_tied_plain_at .later [] _ _ _ _ leNil_said (fun _ h => by cases h) (by kernel_rfl) (fun _ h => by cases h) leNil_row_tie rfl ⟨rfl, rfl⟩ (by kernel_rfl) rfl leNil_plain (by kernel_rfl)
end Go.Proofs.YtblmjaenoleaaaaDoor
