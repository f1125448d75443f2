/-
  Package model: Remove, Write, Truncate.
-/
import Derived.Test.YtckicdbiiepngaaMod5
import Derived.Lib.BufferWrite
namespace Go.Proofs.Ytckicdbiiepngaa
set_option linter.unusedVariables false
set_option linter.unusedSimpArgs false
open Go.RowKit Go.Maps Go.Lib Go.Shelf

theorem map_row {w : World} {i N n : Nat} {D : DT} {sv : Value} {xs : List Value} {e : TypeId} {sz base : Nat} (hm : MapT w i N D) (hr : w.ownsRow base e sz sv n xs) : sv.ownBlock ≠ some i := by
  intro hb
  obtain ⟨es, cl, he, _⟩ := hm
  rcases hr.2 with ⟨rfl, _⟩ | ⟨g', cap, cur, rfl, _, h2, _⟩
  · cases hb
  · cases hb; rw [h2] at he; cases he
theorem AllIn.turn {w w' : World} {S : Nat → Prop} {m : Nat} {sv : Value} {a : AllA} {N N' : Nat} {D' : DT} (h : AllIn w S m sv a N) (hN : N ≤ N') (hm : MapT w' m N' D') (hb : ∀ i, i ≠ m → i < w.heap.size → w'.heap[i]? = w.heap[i]?) : AllIn w' S m sv ⟨D', a.snaps⟩ N' := by
  obtain ⟨rs, h1, h2, h3, h4, h5, h6⟩ := h
  refine ⟨rs, hm, (h2.same (fun b e => hb b (fun h => map_row h1 h2.row (h ▸ e)) (h2.lt.1 b e)) (fun r hr => hb _ (fun h => ?_) (h2.lt.2 r hr))).monoN hN, h3, h4, h5, h6⟩
  rw [List.nodup_cons] at h6
  exact h6.1 (List.mem_map.2 ⟨r, hr, h⟩)
/-- What is live, and what comes of it when it alone turns. -/
theorem ModAt.live_at {w : World} {S : Nat → Prop} {b : Nat} {d : ModD} {N : Nat} (h : ModAt w S b d N) : ∃ m cs, Blk w b 63 cs ∧ cs[0]? = some (.map (some m)) ∧ MapT w m N d.now.live ∧ S m ∧ m ≠ b ∧
    ∀ w' N' D', N ≤ N' → w.heap.size ≤ w'.heap.size → (∀ i, i ≠ m → i < w.heap.size → w'.heap[i]? = w.heap[i]?) → MapT w' m N' D' → ModAt w' (more S w w') b ⟨⟨D', d.now.snaps⟩, d.kept⟩ N' := by
  obtain ⟨m1, A1, n1, c1, m2, A2, n2, c2, S1, S2, h1, h2, h3, h4, h5, h6, h7⟩ := h
  have hm1 : S1 m1 := by obtain ⟨rs, _, _, h, _⟩ := h2; exact h
  refine ⟨m1, _, h1, rfl, by obtain ⟨rs, h, _⟩ := h2; exact h, (h4 _ hm1).1, (h4 _ hm1).2.1, fun w' N' D' hN hs hb hm => ?_⟩
  exact ⟨m1, A1, n1, c1, m2, A2, n2, c2, S1, S2, (hb b (fun e => (h4 _ hm1).2.1 e.symm) h1.lt).trans h1, h2.turn hN hm hb,
    (h3.same (fun i hi hlt => hb i (fun e => (h4 _ hm1).2.2 (e ▸ hi)) hlt)).monoN hN, fun i hi => ⟨.inl (h4 i hi).1, (h4 i hi).2⟩, fun i hi => ⟨.inl (h5 i hi).1, (h5 i hi).2⟩, .inl h6, fun i hi => by
      rcases hi with hi | hi
      · have := h7 i hi; omega
      · exact hi.2⟩

/-- What an act that turns what is live does: the error, and the objects behind it. -/
def Did (d d' : ModD) (er : Int) : Prop := d'.kept = d.kept ∧ (er ≠ 0 → d' = d)
theorem ModAt.stay {w : World} {S : Nat → Prop} {b : Nat} {d : ModD} {N : Nat} (h : ModAt w S b d N) : ModAt w (more S w w) b d (N + 1) := (h.grow (Below.refl _ _)).monoN (by omega)

theorem hasE_or {D : DT} {id : Int} (h : hasE D id ≠ 0) : hasE D id = 1 ∨ hasE D id = 7 := by
  unfold hasE mayE at h ⊢
  split at h <;> split at h <;> simp_all
def remD (d : ModD) (id : Int) : ModD := if hasE d.now.live id = 0 then ⟨⟨d.now.live.del (.int .i64 id), d.now.snaps⟩, d.kept⟩ else d
theorem remove_any {w : World} {S : Nat → Prop} {b : Nat} {d : ModD} {N : Nat} (h : ModAt w S b d N) (id : Int) :
    Calls Try.prog 24 #[.pointer (some ⟨b, 0, none⟩), .int .i64 id] w fun e w' => e = .returned (.int .i64 (hasE d.now.live id)) ∧
      ModAt w' (more S w w') b (remD d id) (N + 1) ∧ Only S w w' := by
  have hH := Lib.hid h
  obtain ⟨m, cs, hb, h0, hm, hSm, hmb, hturn⟩ := h.live_at
  have c0 := hb.at_ h0
  have HC := Lib.hid (has_any hb h0 hm id)
  have HM := Lib.hid hm
  have HT := Lib.hid hturn
  have HS := Lib.hid hSm
  clear h hb h0 hm hturn hSm
  go_enter Try.func24, Try.ntmps24
  go_wp2_with fail
  refine HC.out.mono ?_
  rintro e w1 ⟨rfl, rfl⟩
  by_cases hz : hasE d.now.live id = 0
  · have hzz := Lib.hid hz
    rw [hz]
    have hme : mayE id = 0 := by
      unfold hasE at hz
      split at hz
      · rename_i h; exact absurd hz h
      · rename_i h; simpa using h
    have hid := mayE_ok hme
    obtain ⟨w2, hrun, hown2, htur⟩ := World.ownsMap.drop HM.out kint Try.underlying57 (keyOf_int_mk Try.underlying3 (wfz_in (k := id) (by omega) (by omega))) 0
    have hg := htur.grown
    have HO := Lib.hid hown2
    have HG := Lib.hid hg
    clear hown2 htur hg hz hme hid HC
    go_wp2_with fail
    go_ret
    refine ⟨by rw [hzz.out]; rfl, by unfold remD; rw [if_pos hzz.out]; exact HT.out _ _ _ (by omega) HG.out.size (fun i hi hlt => HG.out.block i hlt (fun e => hi (by injection e))) (World.ownsMap.mono HO.out (by omega)), Only.of_grown HG.out HS.out⟩
  · have hzz := Lib.hid hz
    have hor := hasE_or hz
    clear hz HC
    rcases hor with hr | hr
    all_goals
      have HR := Lib.hid hr
      rw [hr]
      clear hr
      go_wp2_with fail
      go_ret
      exact ⟨by rw [HR.out]; rfl, by unfold remD; rw [if_neg hzz.out]; exact hH.out.stay, Only.refl _ _⟩

theorem write_nil (id off : Int) (s : List UInt8) (w : World) : Calls Try.prog 23 #[.pointer none, .int .i64 id, .int .i64 off, str s] w fun e w' => e = .returned (.int .i64 11) ∧ w = w' := by
  go_enter Try.func23, Try.ntmps23
  go_wp2_with fail
  refine (may_nil id w).mono ?_
  rintro e w1 ⟨rfl, rfl⟩
  go_wp2_with fail
  go_ret
  exact ⟨rfl, rfl⟩
theorem truncate_nil (id size : Int) (w : World) : Calls Try.prog 26 #[.pointer none, .int .i64 id, .int .i64 size] w fun e w' => e = .returned (.int .i64 11) ∧ w = w' := by
  go_enter Try.func26, Try.ntmps26
  go_wp2_with fail
  refine (has_nil id w).mono ?_
  rintro e w1 ⟨rfl, rfl⟩
  go_wp2_with fail
  go_ret
  exact ⟨rfl, rfl⟩
end Go.Proofs.Ytckicdbiiepngaa
