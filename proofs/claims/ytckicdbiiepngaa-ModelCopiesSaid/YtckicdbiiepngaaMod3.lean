/-
  Package model: worlds, what they have in memory; New, Keep, Back, Copy.
-/
import Derived.Test.YtckicdbiiepngaaMod2
namespace Go.Proofs.Ytckicdbiiepngaa
set_option linter.unusedVariables false
set_option linter.unusedSimpArgs false
open Go.RowKit Go.Maps Go.Lib Go.Shelf
open Go.WideElems (Fit rg rd_val rg_of)

theorem merge_self {w : World} {b N : Nat} {D : DT} (h : MapT w b N D) : mergeD (.map []) D = D := by
  refine merge_empty (World.ownsMap.canon h kint) ?_
  obtain ⟨es, rfl, hp, hk⟩ := World.ownsMap.canonK h kint
  exact (canonK_fold kint.one es (.map []) hk ⟨[], rfl, List.Pairwise.nil, fun p hp => by cases hp⟩).canon kint.one
theorem texts {w : World} {b N : Nat} {D : DT} (h : MapT w b N D) : ∀ p ∈ entriesD D, ∃ s, p.2 = .lit (.string s) := by
  obtain ⟨es, clock, _, F, _, rfl⟩ := h
  intro p hp
  obtain ⟨x, hx, rfl⟩ := List.mem_map.1 (mem_sorted.1 hp)
  obtain ⟨y, hy⟩ := F.reads x hx
  rw [rg_of hy]
  obtain ⟨z, hz, e⟩ := rd_val hy
  obtain ⟨s, _, _, e2, _⟩ := rt_some (d := z.1) (ps := z.2) hz
  exact ⟨_, e.trans e2⟩
theorem equal_self {w : World} {b N : Nat} {D : DT} (h : MapT w b N D) : equalFuncD eqT D D = true := by
  have ht := texts h
  obtain ⟨es, rfl, hp, hk⟩ := World.ownsMap.canon h kint
  simp only [equalFuncD, decide_true, Bool.true_and, List.all_eq_true]
  intro p hpm
  obtain ⟨s, hs⟩ := ht p hpm
  have hat : ∀ z, (DataW.map es).atKey p.1 z = p.2 := fun z => WideAt.atKey_mem z (hk p hpm) (apart_of_rising hp) hpm
  simp only [goodD, has_true_of_atKey hat, hat, Bool.true_and, hs]
  exact eqT_self (D := .nil) (k := .bool true)

/-- Objects and snapshots, in blocks of S alone. -/
def AllIn (w : World) (S : Nat → Prop) (m : Nat) (sv : Value) (a : AllA) (N : Nat) : Prop :=
  ∃ rs, MapT w m N a.live ∧ RowIn w sv rs a.snaps N ∧ S m ∧ (∀ r ∈ rs, S r.2) ∧ (∀ b, sv.ownBlock = some b → S b) ∧ (m :: rs.map Prod.snd).Nodup
section
variable {w w' : World} {S T : Nat → Prop} {m : Nat} {sv : Value} {a : AllA} {N : Nat}
theorem RowIn.form {rs : List (Int × Nat)} {ss : List (Int × DT)} (h : RowIn w sv rs ss N) : ∃ A c, sv = .slice A rs.length c := by
  rcases h.row.2 with ⟨rfl, h0⟩ | ⟨b, cap, cur, rfl, _⟩
  · exact ⟨none, 0, by rw [h0]⟩
  · exact ⟨_, _, rfl⟩
theorem RowIn.monoN {rs : List (Int × Nat)} {ss : List (Int × DT)} {M : Nat} (h : RowIn w sv rs ss N) (hN : N ≤ M) : RowIn w sv rs ss M :=
  ⟨h.row, h.len, h.ids, fun i r p h1 h2 => World.ownsMap.mono (h.maps i r p h1 h2) hN, h.few⟩
theorem AllIn.form (h : AllIn w S m sv a N) : ∃ A c, sv = .slice A a.snaps.length c := by
  obtain ⟨rs, _, h, _⟩ := h
  rw [← h.len]
  exact h.form
theorem AllIn.same (h : AllIn w S m sv a N) (hb : ∀ i, S i → i < w.heap.size → w'.heap[i]? = w.heap[i]?) : AllIn w' S m sv a N := by
  obtain ⟨rs, h1, h2, h3, h4, h5, h6⟩ := h
  exact ⟨rs, MapT.same h1 (hb _ h3 (World.ownsMap.lt h1)), h2.same (fun b e => hb b (h5 b e) (h2.lt.1 b e)) (fun r hr => hb _ (h4 r hr) (h2.lt.2 r hr)), h3, h4, h5, h6⟩
theorem AllIn.mono (h : AllIn w S m sv a N) (hS : ∀ i, i < w.heap.size → S i → T i) : AllIn w T m sv a N := by
  obtain ⟨rs, h1, h2, h3, h4, h5, h6⟩ := h
  exact ⟨rs, h1, h2, hS _ (World.ownsMap.lt h1) h3, fun r hr => hS _ (h2.lt.2 r hr) (h4 r hr), fun b e => hS _ (h2.lt.1 b e) (h5 b e), h6⟩
theorem AllIn.monoN {M : Nat} (h : AllIn w S m sv a N) (hN : N ≤ M) : AllIn w S m sv a M := by
  obtain ⟨rs, h1, h2, h3⟩ := h
  exact ⟨rs, World.ownsMap.mono h1 hN, h2.monoN hN, h3⟩
theorem AllIn.only (h : AllIn w S m sv a N) (ho : Only T w w') (hd : ∀ i, S i → ¬ T i) : AllIn w' S m sv a N := h.same (fun i hi hlt => ho.block i hlt (hd i hi))
theorem AllIn.below (h : AllIn w S m sv a N) (hb : Below w.heap.size w w') : AllIn w' S m sv a N := h.same (fun i _ hlt => hb.block i hlt)

/-- copied. -/
theorem copied_any (h : AllIn w S m sv a N) (hN : N ≤ 1000000) : Calls Try.prog 25 #[.agg #[.map (some m), sv]] w fun e w' => ∃ ml A n c, e = .returned (.agg #[.map (some ml), .slice A n c]) ∧
    AllIn w' (fun i => w.heap.size ≤ i) ml (.slice A n c) a N ∧ Below w.heap.size w w' := by
  obtain ⟨rs, h1, h2, h3, h4, h5, h6⟩ := h
  refine (copied_core (.inr ⟨m, N, rfl, h1⟩) (merge_self h1) (World.ownsMap.size_le h1) hN h2).mono ?_
  rintro e w' ⟨ml, sv', rs', rfl, k1, k2, k3, k4, k5, k6, k7⟩
  obtain ⟨A, c, rfl⟩ := k2.form
  exact ⟨ml, A, _, c, rfl, ⟨rs', k1, k2, k4, k5, k6, k7⟩, k3⟩
def emp : AllA := ⟨.map [], []⟩
theorem copied_zero (w : World) : Calls Try.prog 25 #[.agg #[.map none, .slice none 0 0]] w fun e w' => ∃ ml A n c, e = .returned (.agg #[.map (some ml), .slice A n c]) ∧
    AllIn w' (fun i => w.heap.size ≤ i) ml (.slice A n c) emp 0 ∧ Below w.heap.size w w' := by
  refine (copied_core (D := .nil) (D' := .map []) (N := 0) (.inl ⟨rfl, rfl⟩) rfl (Nat.le_refl _) (by omega) (rowIn_nil w 0)).mono ?_
  rintro e w' ⟨ml, sv', rs', rfl, k1, k2, k3, k4, k5, k6, k7⟩
  obtain ⟨A, c, rfl⟩ := k2.form
  exact ⟨ml, A, _, c, rfl, ⟨rs', k1, k2, k4, k5, k6, k7⟩, k3⟩
end

structure ModD where
  now : AllA
  kept : AllA
/-- A world: its block; what it has now (S1), what it kept (S2). -/
def ModAt (w : World) (S : Nat → Prop) (b : Nat) (d : ModD) (N : Nat) : Prop :=
  ∃ m1 A1 n1 c1 m2 A2 n2 c2 S1 S2, Blk w b 63 #[.map (some m1), .slice A1 n1 c1, .map (some m2), .slice A2 n2 c2] ∧
    AllIn w S1 m1 (.slice A1 n1 c1) d.now N ∧ AllIn w S2 m2 (.slice A2 n2 c2) d.kept N ∧
    (∀ i, S1 i → S i ∧ i ≠ b ∧ ¬ S2 i) ∧ (∀ i, S2 i → S i ∧ i ≠ b) ∧ S b ∧ (∀ i, S i → i < w.heap.size)
section
variable {w w' : World} {S T : Nat → Prop} {b : Nat} {d : ModD} {N : Nat}
theorem ModAt.lt (h : ModAt w S b d N) : ∀ i, S i → i < w.heap.size := by
  obtain ⟨_, _, _, _, _, _, _, _, _, _, _, _, _, _, _, _, h⟩ := h
  exact h
theorem ModAt.has (h : ModAt w S b d N) : S b := by
  obtain ⟨_, _, _, _, _, _, _, _, _, _, _, _, _, _, _, h, _⟩ := h
  exact h
theorem ModAt.same (h : ModAt w S b d N) (hsz : w.heap.size ≤ w'.heap.size) (hb : ∀ i, S i → w'.heap[i]? = w.heap[i]?) : ModAt w' S b d N := by
  obtain ⟨m1, A1, n1, c1, m2, A2, n2, c2, S1, S2, h1, h2, h3, h4, h5, h6, h7⟩ := h
  exact ⟨m1, A1, n1, c1, m2, A2, n2, c2, S1, S2, (hb b h6).trans h1, h2.same (fun i hi _ => hb i (h4 i hi).1), h3.same (fun i hi _ => hb i (h5 i hi).1), h4, h5, h6, fun i hi => by have := h7 i hi; omega⟩
theorem ModAt.below (h : ModAt w S b d N) (hb : Below w.heap.size w w') : ModAt w' S b d N := h.same hb.size (fun i hi => hb.block i (h.lt i hi))
theorem ModAt.only (h : ModAt w S b d N) (ho : Only T w w') (hd : ∀ i, S i → ¬ T i) : ModAt w' S b d N := h.same ho.size (fun i hi => ho.block i (h.lt i hi) (hd i hi))
theorem ModAt.mono (h : ModAt w S b d N) (hS : ∀ i, S i → T i) (hT : ∀ i, T i → i < w.heap.size) : ModAt w T b d N := by
  obtain ⟨m1, A1, n1, c1, m2, A2, n2, c2, S1, S2, h1, h2, h3, h4, h5, h6, h7⟩ := h
  exact ⟨m1, A1, n1, c1, m2, A2, n2, c2, S1, S2, h1, h2, h3, fun i hi => ⟨hS _ (h4 i hi).1, (h4 i hi).2⟩, fun i hi => ⟨hS _ (h5 i hi).1, (h5 i hi).2⟩, hS _ h6, hT⟩
theorem ModAt.monoN {M : Nat} (h : ModAt w S b d N) (hN : N ≤ M) : ModAt w S b d M := by
  obtain ⟨m1, A1, n1, c1, m2, A2, n2, c2, S1, S2, h1, h2, h3, h4⟩ := h
  exact ⟨m1, A1, n1, c1, m2, A2, n2, c2, S1, S2, h1, h2.monoN hN, h3.monoN hN, h4⟩
theorem ModAt.grow (h : ModAt w S b d N) (hb : Below w.heap.size w w') : ModAt w' (more S w w') b d N :=
  (h.below hb).mono (fun i hi => .inl hi) (fun i hi => by
    rcases hi with hi | hi
    · have := h.lt i hi; have := hb.size; omega
    · exact hi.2)
end

theorem new_any (w : World) : Calls Try.prog 9 #[] w fun e w' => ∃ b, e = .returned (.pointer (some ⟨b, 0, none⟩)) ∧ ModAt w' (fun i => w.heap.size ≤ i ∧ i < w'.heap.size) b ⟨emp, emp⟩ 0 ∧ Below w.heap.size w w' := by
  go_enter Try.func9, Try.ntmps9
  go_wp2_with fail
  refine (copied_zero _).mono ?_
  rintro e w1 ⟨m1, A1, n1, c1, rfl, ha1, hb1⟩
  have HA1 := Lib.hid ha1
  have HB1 := Lib.hid hb1
  clear ha1 hb1
  go_wp2_with fail
  refine (copied_zero _).mono ?_
  rintro e w2 ⟨m2, A2, n2, c2, rfl, ha2, hb2⟩
  have HA2 := Lib.hid ha2
  have HB2 := Lib.hid hb2
  clear ha2 hb2
  go_wp2_with fail
  have hs1 := HB1.out.size
  have hs2 := HB2.out.size
  obtain ⟨w3, hw3⟩ : ∃ x, x = w2.alloc (.cells #[.map (some m1), .slice A1 n1 c1, .map (some m2), .slice A2 n2 c2] 63) := ⟨_, rfl⟩
  have hb3 : Below w2.heap.size w2 w3 := by rw [hw3]; exact keep_alloc (Below.refl _ _) _
  have hs3 : w3.heap.size = w2.heap.size + 1 := by rw [hw3]; simp
  have hk3 : Blk w3 w2.heap.size 63 #[.map (some m1), .slice A1 n1 c1, .map (some m2), .slice A2 n2 c2] := by rw [hw3]; exact Blk.new _ _ _
  rw [← hw3]
  go_ret
  refine ⟨_, rfl, ⟨m1, A1, n1, c1, m2, A2, n2, c2, fun i => w.heap.size ≤ i ∧ i < w1.heap.size, fun i => w1.heap.size ≤ i ∧ i < w2.heap.size, hk3, ?_, ?_, ?_, ?_, ?_, ?_⟩, ?_⟩
  · exact ((HA1.out.mono (T := fun i => w.heap.size ≤ i ∧ i < w1.heap.size) (fun i h1 h2 => ⟨h2, h1⟩)).below HB2.out).below hb3
  · exact (HA2.out.mono (T := fun i => w1.heap.size ≤ i ∧ i < w2.heap.size) (fun i h1 h2 => ⟨h2, h1⟩)).below hb3
  · intro i hi; refine ⟨⟨?_, ?_⟩, ?_, fun h => ?_⟩ <;> omega
  · intro i hi; refine ⟨⟨?_, ?_⟩, ?_⟩ <;> omega
  · show w.heap.size ≤ w2.heap.size ∧ w2.heap.size < w3.heap.size
    omega
  · intro i hi; exact hi.2
  · exact keep_below hb3 (keep_below HB2.out HB1.out)
end Go.Proofs.Ytckicdbiiepngaa
