/-
  Package model: Truncate; the document's Fill and Count.
-/
import Derived.Test.YtckicdbiiepngaaMod7
namespace Go.Proofs.Ytckicdbiiepngaa
set_option linter.unusedVariables false
set_option linter.unusedSimpArgs false
open Go.RowKit Go.Maps Go.Lib Go.Shelf

/-- copy of a text that is longer than the slice: of so much as fits. -/
theorem copy_cut (o : List UInt8) (n c g : Nat) (h : n ≤ o.length) (W : World) : (Builtin.copy_ #[83, 9] 3 #[.slice (some ⟨g, 0, none⟩) n c, str o]).run Try.prog W =
    (Builtin.copy_ #[83, 9] 3 #[.slice (some ⟨g, 0, none⟩) n c, str (o.take n)]).run Try.prog W := by
  obtain ⟨i0, hi, hz0, hz1, hz2⟩ := info_parts Try.infoU8
  have h1 : (ByteArray.mk o.toArray).size = o.length := by simp [ByteArray.size]
  have h2 : (ByteArray.mk (o.take n).toArray).size = n := by simp [ByteArray.size]; omega
  have h3 : Nat.min o.length n = n := Nat.min_eq_right h
  have h4 : Nat.min n n = n := Nat.min_self n
  simp [Builtin.copy_, run_underlying Try.underlying83, Builtin.lenOf, Builtin.firstCells, sizeOf, typeInfo, hi, hz1, h1, h2, h3, h4, str, List.take_take]
theorem cut_runs (w : World) (o : List UInt8) (n : Nat) (hn : n ≤ 16384) : ∃ (X : List UInt8) (c : Int) (w1 w2 : World), X.length = n ∧
    (Instr.makeSlice 83 (.int .i64 n) (.int .i64 n)).run Try.prog w = .ok (.slice (some ⟨w.heap.size, 0, none⟩) n n) w1 ∧
    (Builtin.copy_ #[83, 9] 3 #[.slice (some ⟨w.heap.size, 0, none⟩) n n, str o]).run Try.prog w1 = .ok (.int .i64 c) w2 ∧
    (convert 83 9 (.slice (some ⟨w.heap.size, 0, none⟩) n n)).run Try.prog w2.drew = .ok (str X) w2.drew ∧ Below w.heap.size w w1 ∧ Below w.heap.size w w2 := by
  obtain ⟨w1, r1, hb1, hs1, hbel1⟩ := mk_bytes w n hn
  by_cases hon : o.length ≤ n
  · obtain ⟨w2, r2, hb2, hs2, hg2⟩ := cp_bytes hb1 0 o (by rw [List.length_replicate]; omega) n n hon 3
    rw [lay_pad o n hon] at hb2
    exact ⟨_, _, w1, w2, padT_len hon, r1, r2, conv_bytes (w := w2.drew) hb2 n n (padT_len hon).symm, hbel1, hbel1.grown hg2 (by omega) (fun j e => by cases e; omega)⟩
  · have hl : (o.take n).length = n := by rw [List.length_take]; omega
    obtain ⟨w2, r2, hb2, hs2, hg2⟩ := cp_bytes hb1 0 (o.take n) (by rw [List.length_replicate, hl]; omega) n n (by omega) 3
    rw [lay_pad (o.take n) n (by omega)] at hb2
    exact ⟨_, _, w1, w2, padT_len (by omega), r1, (copy_cut o n n _ (by omega) _).trans r2, conv_bytes (w := w2.drew) hb2 n n (padT_len (by omega)).symm, hbel1, hbel1.grown hg2 (by omega) (fun j e => by cases e; omega)⟩

/-- What an act does to a world: the error, the data behind it. -/
def Act1 (w w' : World) (S : Nat → Prop) (b : Nat) (d : ModD) (N : Nat) (er : Int) : Prop :=
  ∃ d', ModAt w' (more S w w') b d' (N + 1) ∧ Only S w w' ∧ d'.kept = d.kept ∧ (er ≠ 0 → d' = d)
theorem Act1.none {w w' : World} {S : Nat → Prop} {b : Nat} {d : ModD} {N : Nat} (h : ModAt w S b d N) (er : Int) : Act1 w w S b d N er := ⟨d, h.stay, Only.refl _ _, rfl, fun _ => rfl⟩

set_option maxRecDepth 20000 in
theorem truncate_any {w : World} {S : Nat → Prop} {b : Nat} {d : ModD} {N : Nat} (h : ModAt w S b d N) (hN : N ≤ 1000000) (id size : Int) :
    Calls Try.prog 26 #[.pointer (some ⟨b, 0, none⟩), .int .i64 id, .int .i64 size] w fun e w' => ∃ er, e = .returned (.int .i64 er) ∧ Act1 w w' S b d N er := by
  have hH := Lib.hid h
  obtain ⟨m0, cs, hb, h0, hm0, _⟩ := h.live_at
  have HC := Lib.hid (has_any hb h0 hm0 id)
  obtain ⟨m, c0, hm, hbl, hput⟩ := h.live_put hN
  have HM := Lib.hid hm
  have HT := Lib.hid hput
  clear h hm hput hb h0 hm0
  go_enter Try.func26, Try.ntmps26
  go_wp2_with fail
  refine HC.out.mono ?_
  rintro e w1 ⟨rfl, rfl⟩
  by_cases hz : hasE d.now.live id = 0
  · have hme : mayE id = 0 := by
      unfold hasE at hz
      split at hz
      · rename_i h; exact absurd hz h
      · rename_i h; simpa using h
    have hid := mayE_ok hme
    have HI := Lib.hid hid
    rw [hz]
    have hlk := MapT.look HM.out (k := id) (wfz_in (by omega) (by omega))
    have g0 := hlk.1
    have HO := Lib.hid hlk.2
    obtain ⟨o, htx⟩ : ∃ o, o = txt d.now.live id := ⟨_, rfl⟩
    rw [← htx] at g0 HO
    have HTX := Lib.hid htx
    clear hz hme hid hlk htx
    by_cases h1 : size < 0
    · have g1 : decide (size < 0) = true := decide_eq_true h1
      go_wp2_with fail
      go_ret
      exact ⟨_, rfl, Act1.none (w' := w) hH.out _⟩
    · have g1 : decide (size < 0) = false := decide_eq_false h1
      by_cases h2 : 16384 < size
      · have g2 : decide (16384 < size) = true := decide_eq_true h2
        go_wp2_with fail
        go_ret
        exact ⟨_, rfl, Act1.none (w' := w) hH.out _⟩
      · obtain ⟨n, rfl⟩ : ∃ n : Nat, size = n := ⟨size.toNat, by omega⟩
        have g2 : decide ((16384 : Int) < n) = false := decide_eq_false h2
        have g1 : decide ((n : Int) < 0) = false := decide_eq_false (by omega)
        obtain ⟨X, c, w1, w2, hX, r1, r2, r3, hbel1, hbel2⟩ := cut_runs w o n (by omega)
        obtain ⟨c1, hm1, _⟩ := HT.out w1 hbel1
        obtain ⟨c2, hm2, hst⟩ := HT.out w2.drew (below_drew hbel2)
        have c3 : w2.cell? ⟨b, 0, none⟩ = some (.map (some m)) := c2
        obtain ⟨w3, r4, hfin⟩ := hst id X HI.out (by omega)
        have hk1 := (MapT.look hm1 (k := id) (wfz_in (by have := HI.out; omega) (by have := HI.out; omega))).1
        rw [← HTX.out] at hk1
        have HF := Lib.hid hfin
        clear hm1 hm2 hst hfin hbel1 hbel2 h1 h2
        go_wp2_with fail
        refine wp_region_still_tail 8 (by kernel_rfl) (by kernel_rfl) ?_
        simp only [List.take_succ_cons, List.take_zero, List.drop_succ_cons, List.drop_zero]
        repeat still_step
        try refine wpStill_nil ?_
        change wpList _ _ _ _ _ w2.drew
        go_wp2_with fail
        go_ret
        exact ⟨_, rfl, ⟨_, HF.out.1, HF.out.2, rfl, fun h => absurd rfl h⟩⟩
  · have hzz := Lib.hid hz
    have hor := hasE_or hz
    clear hz HC
    rcases hor with hr | hr
    all_goals
      have HR := Lib.hid hr
      rw [hr]
      clear hr
      go_wp2_with fail
      go_ret
      exact ⟨_, rfl, Act1.none (w' := w) hH.out _⟩

theorem one_new (w : World) (u : Value) (t : TypeId) : ∀ j v, [u][j]? = some v → (w.alloc (.cells #[u] t)).cell? ((⟨w.heap.size, 0, none⟩ : Addr).add j) = some v := by
  intro j v hj
  match j, hj with
  | 0, hj => simp at hj; subst hj; simp [Addr.add]

theorem fill_any (b : UInt8) (n : Nat) (hn : n ≤ 600) (w : World) : Calls Try.prog 30 #[.int .u8 b.toNat, .int .i64 n] w fun e w' => e = .returned (str (List.replicate n b)) ∧ Below w.heap.size w w' := by
  obtain ⟨i0, hi, hz0, hz1, hz2⟩ := info_parts Try.infoU8
  go_enter Try.func30, Try.ntmps30
  go_wp2
  go_loopw [5, 6] (fun v t wr => ∃ k : Nat, k ≤ n ∧ t = .int .i64 k ∧ wr.ownsRow w.heap.size 5 1 v k (List.replicate k (.int .u8 b.toNat)) ∧ Below w.heap.size w wr) (fun _ t _ => n - (intOf t).toNat)
  case atStart => exact ⟨0, Nat.zero_le _, rfl, World.ownsRow_nil _ _ _ _, Below.refl _ _⟩
  case round =>
    obtain ⟨k, hk, rfl, hown, hb⟩ := hrel
    by_cases hlt : k < n
    · obtain ⟨xs, hxs⟩ : ∃ xs, xs = List.replicate k (Value.int .u8 b.toNat) := ⟨_, rfl⟩
      rw [← hxs] at hown
      have HX := Lib.hid hxs
      clear hxs
      have hdk : decide ((k : Int) < n) = true := decide_eq_true (by omega)
      go_wp2_with (at_builtin; refine wpList_append_own _ rfl _ _ 83 rfl w.heap.size 5 i0 _ 1 1 Try.underlying83 hi hz0 hz1 hz2 rfl (by decide) _ _ _ rfl (hown.alloc _) ⟨wr.heap.size, 0, none⟩ 1 1 [.int .u8 b.toNat] rfl rfl ?c1 ?c2 (by unfold maxLen; omega) (by omega) ?c5 ?_)
      case c1 => exact one_new _ _ _
      case c2 => intro u hu; simp at hu; subst hu; rfl
      case c5 => have := hb.size; simp; omega
      intro v' w1 hown' hgrow _
      have hown2 : w1.ownsRow w.heap.size 5 1 v' (k + 1) (List.replicate (k + 1) (.int .u8 b.toNat)) := by
        rw [List.replicate_succ', ← HX.out]
        exact hown'
      have hb2 : Below w.heap.size w w1 := (hb.alloc hb.size _).grown hgrow (by have := hb.size; simp; omega) (fun k hk => (hown.lt k hk).1)
      clear hown hown' hgrow
      go_wp2_with fail
      go_roundw
      case rel => exact ⟨k + 1, by omega, by go_num, hown2, hb2⟩
      case measure => simp [intOf]; omega
    · obtain rfl : k = n := by omega
      have hdk : decide ((k : Int) < k) = false := decide_eq_false (by omega)
      rcases hown.2 with ⟨rfl, h0⟩ | ⟨g, cap, cur, rfl, _⟩
      · obtain rfl : k = 0 := by simpa using h0
        have hE : (convert 83 9 (.slice none 0 0)).run Try.prog wr = .ok (str []) wr := by
          simp [convert, run_underlying Try.underlying83, run_underlying Try.underlying9, run_underlying Try.underlying5, str, go_sem, Conv.bytesToString]
          rfl
        clear hown h0
        go_wp2_with fail
        go_ret
        exact ⟨rfl, hb⟩
      · have hE : (convert 83 9 (.slice (some ⟨g, 0, none⟩) k cap)).run Try.prog wr = .ok (str (List.replicate k b)) wr := by
          have := run_convert_bytes_back (P := Try.prog) wr 83 9 5 ⟨g, 0, none⟩ cap (List.replicate k b) Try.underlying83 Try.underlying5 Try.underlying9
            (fun j hj => hown.cells rfl j _ (by
              rw [List.length_replicate] at hj
              rw [List.getElem?_replicate, if_pos hj, List.getElem_replicate]))
          rw [List.length_replicate] at this
          exact this
        clear hown
        go_wp2_with fail
        go_ret
        exact ⟨rfl, hb⟩

def cntA (n : Int) : Nat := if n ≤ 0 then 0 else if 600 ≤ n then 600 else n.toNat / 4 * 4
theorem cntA_le (n : Int) : cntA n ≤ 600 := by unfold cntA; split <;> (try split) <;> omega
theorem count_any (q id off n f : Value) (x : Int) (hx : n = .int .i64 x) (w : World) : Calls Try.prog 31 #[.agg #[q, id, off, n, f]] w fun e w' => e = .returned (.int .i64 (cntA x)) ∧ Below w.heap.size w w' := by
  subst hx
  go_enter Try.func31, Try.ntmps31
  by_cases h0 : x ≤ 0
  · have hc : cntA x = 0 := by unfold cntA; rw [if_pos h0]
    rw [hc]
    have hm : max x 0 = 0 := by omega
    go_wp2_with fail
    go_ret
    exact ⟨rfl, keep_alloc (Below.refl _ _) _⟩
  · by_cases h6 : 600 ≤ x
    · have hc : cntA x = 600 := by unfold cntA; rw [if_neg h0, if_pos h6]
      rw [hc]
      have hm : max x 0 = x := by omega
      have hm2 : min x 600 = 600 := by omega
      go_wp2_with fail
      go_ret
      exact ⟨rfl, keep_alloc (Below.refl _ _) _⟩
    · have hc : cntA x = x.toNat / 4 * 4 := by unfold cntA; rw [if_neg h0, if_neg h6]
      rw [hc]
      have hm : max x 0 = x := by omega
      have hm2 : min x 600 = x := by omega
      go_wp2_with fail
      go_ret
      exact ⟨rfl, keep_alloc (Below.refl _ _) _⟩
end Go.Proofs.Ytckicdbiiepngaa
