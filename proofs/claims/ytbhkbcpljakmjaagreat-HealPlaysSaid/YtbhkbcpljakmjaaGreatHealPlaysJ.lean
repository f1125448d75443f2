/-
  For every input the law answers true, and its arguments read afterwards as before. No conditions.
-/
import Derived.Test.YtbhkbcpljakmjaaGreatJ01
import Derived.Test.YtbhkbcpljakmjaaGreatJ15
import Derived.Test.YtbhkbcpljakmjaaGreatJ16
import Derived.Test.YtbhkbcpljakmjaaGreatJ37
namespace Go.Proofs.YtbhkbcpljakmjaaGreat
set_option linter.unusedVariables false
set_option linter.unusedSimpArgs false
open Go.ChangeShapes Go.WideShapes Go.ChangeAt Go.RowKit Go.ChangeMaps
set_option maxRecDepth 100000 in
theorem healPlays_contract (H : Type) (enc : TypeId × Value → H) (W : World) (base : Nat) (args : Array Value) (ds gs : List (DataW H)) (before : List MemPlace)
 (hval : ∀ (j : Nat) t v, Tryz.f5.params[j]? = some t → args[j]? = some v → Value.okWide Tryz.prog W .any base t v)
 (hW : DataW.Whole enc Tryz.prog Tryz.f5.params.toList Rows.healPlaysSpec.vars false W args.toList ds gs before) :
 Calls Tryz.prog 5 args W fun e W' => ∃ v, e = .returned v ∧ Rows.healPlaysSpec.post enc Tryz.prog Tryz.f5 false true false false W args v W' := by
 have hW' := hW
 have hlt : ∀ q ∈ before, q.block < W.heap.size := fun q hq => hW.lt q hq
 obtain ⟨p, q, hA0, hV, rfl, hfz, hnd⟩ := hW
 have hltA : ∀ x ∈ p, x.block < W.heap.size := fun x hx => hlt x (List.mem_append_left _ hx)
 have hA : DataW.TrodAll enc Tryz.prog W 0 (fun _ => true) true Tryz.f5.params.toList args.toList ds p := hA0
 have hA' := hA
 rw [Tryz.params5] at hA hval
 obtain ⟨v0, vs0, d0, ds0, p0, q0, hargs, rfl, rfl, h0, r0⟩ := trodAll_cons hA
 obtain ⟨v1, vs1, d1, ds1, p1, q1, rfl, rfl, rfl, h1, r1⟩ := trodAll_cons r0
 obtain ⟨v2, vs2, d2, ds2, p2, q2, rfl, rfl, rfl, h2, r2⟩ := trodAll_cons r1
 obtain ⟨v3, vs3, d3, ds3, p3, q3, rfl, rfl, rfl, h3, r3⟩ := trodAll_cons r2
 obtain ⟨v4, vs4, d4, ds4, p4, q4, rfl, rfl, rfl, h4, r4⟩ := trodAll_cons r3
 obtain ⟨v5, vs5, d5, ds5, p5, q5, rfl, rfl, rfl, h5, r5⟩ := trodAll_cons r4
 obtain ⟨v6, vs6, d6, ds6, p6, q6, rfl, rfl, rfl, h6, r6⟩ := trodAll_cons r5
 obtain ⟨rfl, rfl, rfl⟩ := trodAll_nil r6
 obtain rfl : args = #[v0, v1, v2, v3, v4, v5, v6] := by cases args; simp_all
 obtain ⟨rfl, rfl⟩ := trodVars_none hV
 simp only [List.append_nil] at hlt hW'
 obtain ⟨A0, n0, c0, g0, secs0, rfl, hg0, bs0, bt0⟩ := open_geom (hval 0 _ v0 rfl rfl) h0 (fun q hq => hlt q (by simp [hq]))
 obtain ⟨p_1, rfl, hp1⟩ := open_ptr (hval 1 _ v1 rfl rfl) h1
 obtain ⟨s2, rfl, rfl, rfl, b2⟩ := open_string Tryz.underlying9 (hval 2 _ v2 rfl rfl) h2
 obtain ⟨a2, rfl⟩ : ∃ l : List UInt8, s2 = ⟨l.toArray⟩ := ⟨_, ba_str s2⟩
 rw [show (ByteArray.mk a2.toArray).size = a2.length from by simp [ByteArray.size]] at b2
 unfold maxLen at b2
 obtain ⟨l3, hl3, hm3⟩ := open_boolsA (hval 3 _ v3 rfl rfl) h3
 obtain ⟨l4, hl4, hm4⟩ := open_boolsA (hval 4 _ v4 rfl rfl) h4
 obtain ⟨l5, hl5⟩ := open_hits (hval 5 _ v5 rfl rfl) h5
 obtain ⟨a6, rfl, rfl, rfl⟩ := open_bool Tryz.underlying4 (hval 6 _ v6 rfl rfl) h6
 clear hA0
 refine (healPlays_any A0 n0 c0 g0 secs0 p_1 a2 (by omega) a6 hg0 hl3 hl4 hl5).mono fun e W' ⟨he, hb⟩ => ?_
 subst he
 exact ⟨_, rfl, post_of_below (pv := []) hW' (fun _ _ _ => trodAll_cons_mk (shut_bool Tryz.underlying4 _) trodAll_mk0)
  (fun sp hsp => args_again Tryz.laidOut hb sp (by rw [Tryz.params5]; intro t ht; have ht' : t ∈ ([24, 31, 9, 32, 32, 33, 4] : List Nat) := ht; simp only [List.mem_cons, List.not_mem_nil, or_false] at ht'; rcases ht' with rfl | rfl | rfl | rfl | rfl | rfl | rfl <;> exact ⟨by kernel_rfl, of_decide_eq_true (by kernel_rfl)⟩) hA' hltA (fun x hx => hsp x (by first | (simp at hx; done) | simpa using hx)))
  (fun _ _ => rfl) (by simp) hb (ok_one (by kernel_rfl) rfl (okWide_bool_mk Tryz.underlying4 _))⟩
set_option maxRecDepth 100000 in
theorem healPlays_lifted (os : Os) (started : os.Started) (H : Type) (enc : TypeId × Value → H) :
 ReturnsInHanded {} Tryz.checked os 5 .any (Rows.healPlaysSpec.pre6 enc Tryz.prog Tryz.f5 Rows.healPlaysRow.domain false) (Rows.healPlaysSpec.post enc Tryz.prog Tryz.f5 false true false false) := by
 refine returnsInHanded_of_change (C := Tryz.checked) Tryz.own started (by kernel_rfl) Tryz.func5
  (ChangeSpec.witness6 (enc := enc) (C := Tryz.checked) false ⟨#[], #[.agg #[.slice none 0 0, .int .i64 0], .agg #[.int .i64 0, .int .i64 0, .int .i64 0, .int .i64 0, .bool false, .int .i64 0, .int .i64 0, .int .i64 0, .int .u64 0, .int .u64 0, .int .u64 0, .int .u64 0], .string ⟨#[]⟩, .slice none 0 0, .slice none 0 0, .slice none 0 0, .bool false], []⟩ 8 (by kernel_rfl) (by kernel_rfl) (by kernel_rfl) (by kernel_rfl)) ?_
 intro W base args ds gs before hval hW _ _
 exact healPlays_contract H enc W base args ds gs before hval hW
theorem healPlays_holds : Rows.HealPlaysSaid :=
 OpenClaim.holds_of_wide 5 Tryz.f5 rfl rfl rfl rfl rfl rfl rfl ⟨rfl, rfl, rfl, rfl, rfl⟩ rfl rfl rfl rfl rfl (by kernel_rfl) Tryz.func5 (by kernel_rfl)
  (of_decide_eq_true (by kernel_rfl)) (by unfold Func.isWrapper; rw [if_neg (of_decide_eq_false (by kernel_rfl))]; exact ⟨rfl, rfl⟩)
  (fun os started H enc _ => healPlays_lifted os started H enc)
end Go.Proofs.YtbhkbcpljakmjaaGreat
