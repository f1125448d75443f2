/-
  Contracts of polderref09: Read, Right.
  The document's answer for layer 2: More, Sum.
  The document's answers: the bytes of a measure.
-/
import Derived.Test.YtlpbbjjibnbooaaGreatDoorJ25
import Derived.Test.YtlpbbjjibnbooaaGreatDoorJ14
import Derived.Test.YtlpbbjjibnbooaaGreatDoorJ23
import Derived.Test.YtlpbbjjibnbooaaGreatDoorJ18
import Derived.Test.YtlpbbjjibnbooaaGreatDoorJ17
namespace Go.Proofs.YtlpbbjjibnbooaaGreatDoor
set_option linter.unusedVariables false
set_option linter.unusedSimpArgs false
open Go.RowKit

def intsL (s : List UInt8) (k : Nat) : List Int := (List.range k).map fun i => ((subN s (4 * i) 4 : Nat) : Int)
theorem intsL_step (s : List UInt8) (k : Nat) : intsL s (k + 1) = intsL s k ++ [((subN s (4 * k) 4 : Nat) : Int)] := by simp [intsL, List.range_succ]
theorem int_new (w : World) (u : Value) (t : TypeId) : ∀ j v, [u][j]? = some v → (w.alloc (.cells #[u] t)).cell? ((⟨w.heap.size, 0, none⟩ : Addr).add j) = some v := by
  intro j v hj
  match j, hj with
  | 0, hj => simp at hj; subst hj; simp [Addr.add]

def pBase (s : List UInt8) (k : Nat) : Array Value := #[.int .i64 (subN s 0 4 : Nat), .int .i64 (subN s 4 4 : Nat), .int .i64 (subN s 8 4 : Nat), .int .i64 (subN s 12 4 : Nat), .bool (decide (65536 ≤ subN s 16 4)),
  .int .i64 (((subN s 16 4 : Nat) : Int) % 256), .int .i64 (((subN s 16 4 : Nat) : Int) / 256 % 256), .int .i64 (subN s 20 4 : Nat), .int .u64 (if 0 < k then subN s 24 8 else 0 : Nat), .int .u64 (if 1 < k then subN s 32 8 else 0 : Nat), .int .u64 (if 2 < k then subN s 40 8 else 0 : Nat), .int .u64 (if 3 < k then subN s 48 8 else 0 : Nat)]
theorem pBase_zero (s : List UInt8) : pBase s 0 = #[.int .i64 (subN s 0 4 : Nat), .int .i64 (subN s 4 4 : Nat), .int .i64 (subN s 8 4 : Nat), .int .i64 (subN s 12 4 : Nat), .bool (decide (65536 ≤ subN s 16 4)),
  .int .i64 (((subN s 16 4 : Nat) : Int) % 256), .int .i64 (((subN s 16 4 : Nat) : Int) / 256 % 256), .int .i64 (subN s 20 4 : Nat), .int .u64 0, .int .u64 0, .int .u64 0, .int .u64 0] := rfl
theorem pBase_put (s : List UInt8) : ∀ k, k < 4 → (pBase s k).setIfInBounds (8 + k) (.int .u64 (subN s (24 + 8 * k) 8 : Nat)) = pBase s (k + 1)
  | 0, _ => rfl
  | 1, _ => rfl
  | 2, _ => rfl
  | 3, _ => rfl
theorem pBase_at (s : List UInt8) (k j : Nat) (h : k < 4) : ∃ v, (pBase s j)[8 + k]? = some v := ⟨_, Array.getElem?_eq_getElem (by simp [pBase]; omega)⟩

set_option maxRecDepth 100000 in
set_option maxHeartbeats 4000000 in
theorem refRead9_any (s : List UInt8) (w : World) (hl : s.length ≤ 140737488351232) :
    Calls Tryz.prog 92 #[str s] w fun e w' => e = .returned (.tuple #[.agg (readV s).cells, .int .i64 (readE s)]) ∧ Below w.heap.size w w' := by
  by_cases h1 : s.length < 64
  · have he : Hid (readE s = 2 ∧ readV s = ptrZ) := by
      have : readE s = 2 := by unfold readE; rw [if_pos h1]
      unfold Hid readV; rw [this]; exact ⟨rfl, rfl⟩
    rw [he.out.1, he.out.2]
    go_enter Tryz.func92, Tryz.ntmps92
    go_wp2_with fail
    refine bodyPost_ret (v := .tuple #[.agg ptrZ.cells, .int .i64 2]) (by simp [results, Tryz.results92, go_sem, PtrD.cells, ptrZ]) rfl ⟨rfl, ?_⟩
    exact (Below.refl _ _).alloc (Nat.le_refl _) _
  · by_cases h2 : 64 < s.length
    · have he : Hid (readE s = 3 ∧ readV s = ptrZ) := by
        have : readE s = 3 := by unfold readE; rw [if_neg h1, if_pos h2]
        unfold Hid readV; rw [this]; exact ⟨rfl, rfl⟩
      rw [he.out.1, he.out.2]
      go_enter Tryz.func92, Tryz.ntmps92
      go_wp2_with fail
      refine bodyPost_ret (v := .tuple #[.agg ptrZ.cells, .int .i64 3]) (by simp [results, Tryz.results92, go_sem, PtrD.cells, ptrZ]) rfl ⟨rfl, ?_⟩
      exact (Below.refl _ _).alloc (Nat.le_refl _) _
    · have h3 : s.length = 64 := by omega
      have HL := Lib.hid h3
      clear h3
      obtain ⟨i0, hi, hz0, hz1, hz2⟩ := info_parts Tryz.infoInt
      obtain ⟨W0, hW0⟩ : ∃ W0, W0 = w.alloc (.cells ptrZ.cells 31) := ⟨_, rfl⟩
      have hb0 : Below w.heap.size w W0 := by rw [hW0]; exact (Below.refl _ _).alloc (Nat.le_refl _) _
      have hs0 : w.heap.size < W0.heap.size := by rw [hW0]; simp
      have HZ0 : Hid (Blk W0 w.heap.size 31 ptrZ.cells) := by rw [hW0]; exact Lib.hid (Blk.new _ _ _)
      go_enter Tryz.func92, Tryz.ntmps92
      go_wp2_with fail
      have hW0' : W0 = w.alloc (.cells #[.int .i64 0, .int .i64 0, .int .i64 0, .int .i64 0, .bool false, .int .i64 0, .int .i64 0, .int .i64 0, .int .u64 0, .int .u64 0, .int .u64 0, .int .u64 0] 31) := hW0
      rw [← hW0']
      clear hW0 hW0'
      go_loopw [4, 5] (fun v t wr => ∃ k : Nat, k ≤ 6 ∧ t = .int .i64 k ∧ wr.ownsRow W0.heap.size 3 1 v k ((intsL s k).map (Value.int .i64)) ∧ Below W0.heap.size W0 wr) (fun _ t _ => 6 - (RowKit.intOf t).toNat)
      case atStart => exact ⟨0, Nat.zero_le _, rfl, World.ownsRow_nil _ _ _ _, Below.refl _ _⟩
      case round =>
        obtain ⟨k, hk, rfl, hown, hb⟩ := hrel
        by_cases hlt : k < 6
        · have hsl := HL.out
          have hX := rd_extract s (4 * k) 4
          have hN := fun W => numRef_any ((s.drop (4 * k)).take 4) W (by rw [List.length_take]; omega)
          have hV : Hid (leNat ((s.drop (4 * k)).take 4) = subN s (4 * k) 4) := Lib.hid rfl
          have hVb := subN_lt s (4 * k) 4
          have ht1 : (4 * (k : Int)).toNat = 4 * k := by omega
          have ht2 : (4 * (k : Int) + 4).toNat = 4 * k + 4 := by omega
          have q1 : (4 * (k : Int)) + 4 ≤ s.length := by omega
          have q2 : (0 : Int) ≤ 4 * (k : Int) := by omega
          have q3 : 4 * (k : Int) ≤ 4 * (k : Int) + 4 := by omega
          rw [hV.out] at hN
          have HN := Lib.hid hN
          have hown := hown
          clear hN hV hsl
          generalize (s.drop (4 * k)).take 4 = part at *
          have HS := Lib.hid (intsL_step s k)
          generalize subN s (4 * k) 4 = V at *
          have hVw : IntKind.i64.wrap (V : Int) = (V : Int) := by rw [IntKind.wrap_i64] <;> omega
          go_wp2_with fail
          refine (HN.out _).mono ?_
          rintro e w2 ⟨rfl, rfl⟩
          go_wp2_with (at_builtin; refine wpList_append_own _ rfl _ _ 67 rfl W0.heap.size 3 i0 _ 1 8 Tryz.underlying67 hi hz0 hz1 hz2 rfl (by decide) _ _ _ rfl (hown.alloc _) ⟨wr.heap.size, 0, none⟩ 1 1 [.int .i64 (V : Int)] rfl rfl ?c1 ?c2 (by unfold maxLen; omega) (by omega) ?c5 ?_)
          case c1 => exact int_new _ _ _
          case c2 => intro u hu; simp at hu; subst hu; rfl
          case c5 => have := hb.size; simp; omega
          intro v' w1 hown' hgrow _
          have hown2 : w1.ownsRow W0.heap.size 3 1 v' (k + 1) ((intsL s (k + 1)).map (Value.int .i64)) := by
            rw [HS.out, List.map_append]
            exact hown'
          have hb2 : Below W0.heap.size W0 w1 := (hb.alloc hb.size _).grown hgrow (by have := hb.size; simp; omega) (fun k hk => (hown.lt k hk).1)
          clear hown hown' hgrow
          go_wp2_with fail
          go_roundw
          case rel => exact ⟨k + 1, by omega, by go_num, hown2, hb2⟩
          case measure => simp [RowKit.intOf]; omega
        · obtain rfl : k = 6 := by omega
          obtain ⟨g, cap, rfl, _, hglt⟩ := hown.form (by omega)
          have hc := hown.cells rfl
          have x0 : wr.cell? ⟨g, 0, none⟩ = some (.int .i64 (subN s 0 4 : Nat)) := by simpa [Addr.add] using hc 0 (.int .i64 (subN s 0 4 : Nat)) rfl
          have x1 : wr.cell? ⟨g, 1, none⟩ = some (.int .i64 (subN s 4 4 : Nat)) := by simpa [Addr.add] using hc 1 (.int .i64 (subN s 4 4 : Nat)) rfl
          have x2 : wr.cell? ⟨g, 2, none⟩ = some (.int .i64 (subN s 8 4 : Nat)) := by simpa [Addr.add] using hc 2 (.int .i64 (subN s 8 4 : Nat)) rfl
          have x3 : wr.cell? ⟨g, 3, none⟩ = some (.int .i64 (subN s 12 4 : Nat)) := by simpa [Addr.add] using hc 3 (.int .i64 (subN s 12 4 : Nat)) rfl
          have x4 : wr.cell? ⟨g, 4, none⟩ = some (.int .i64 (subN s 16 4 : Nat)) := by simpa [Addr.add] using hc 4 (.int .i64 (subN s 16 4 : Nat)) rfl
          have x5 : wr.cell? ⟨g, 5, none⟩ = some (.int .i64 (subN s 20 4 : Nat)) := by simpa [Addr.add] using hc 5 (.int .i64 (subN s 20 4 : Nat)) rfl
          have n4 := subN_lt s 16 4
          have HZ := Lib.hid (HZ0.out.below hb hs0)
          have hb2 := hb0.trans (hb.mono (Nat.le_of_lt hs0))
          have hlr : (s.drop 56).length ≤ 9223372036854775807 := by rw [List.length_drop]; omega
          have HZR := Lib.hid fun W => zeros_any (s.drop 56) W hlr
          have hX := rd_rest s 56 (by have := HL.out; omega)
          have hsz := Nat.lt_of_lt_of_le hs0 hb.size
          have p1 : (56 : Int) ≤ s.length := by have := HL.out; omega
          clear hc hown
          have z0 := HZ.out.at_ (i := 0) (v := .int .i64 0) rfl
          have f0 := HZ.out.fr 0
          have z1 := HZ.out.at_ (i := 1) (v := .int .i64 0) rfl
          have f1 := HZ.out.fr 1
          have z2 := HZ.out.at_ (i := 2) (v := .int .i64 0) rfl
          have f2 := HZ.out.fr 2
          have z3 := HZ.out.at_ (i := 3) (v := .int .i64 0) rfl
          have f3 := HZ.out.fr 3
          have z4 := HZ.out.at_ (i := 4) (v := .bool false) rfl
          have f4 := HZ.out.fr 4
          have z5 := HZ.out.at_ (i := 5) (v := .int .i64 0) rfl
          have f5 := HZ.out.fr 5
          have z6 := HZ.out.at_ (i := 6) (v := .int .i64 0) rfl
          have f6 := HZ.out.fr 6
          have z7 := HZ.out.at_ (i := 7) (v := .int .i64 0) rfl
          have f7 := HZ.out.fr 7
          have z8 := HZ.out.at_ (i := 8) (v := .int .u64 0) rfl
          have f8 := HZ.out.fr 8
          have z9 := HZ.out.at_ (i := 9) (v := .int .u64 0) rfl
          have f9 := HZ.out.fr 9
          have z10 := HZ.out.at_ (i := 10) (v := .int .u64 0) rfl
          have f10 := HZ.out.fr 10
          have z11 := HZ.out.at_ (i := 11) (v := .int .u64 0) rfl
          have f11 := HZ.out.fr 11
          by_cases hbig : 131071 < subN s 16 4
          · have he : Hid (readE s = 3 ∧ readV s = ptrZ) := by
              have : readE s = 3 := by unfold readE; rw [if_neg h1, if_neg h2, if_pos hbig]
              unfold Hid readV; rw [this]; exact ⟨rfl, rfl⟩
            have hbig2 : decide ((131072 : Int) ≤ ((subN s 16 4 : Nat) : Int)) = true := decide_eq_true (by omega)
            go_wp2_with fail
            refine bodyPost_ret (v := .tuple #[.agg ptrZ.cells, .int .i64 3]) (by simp [results, Tryz.results92, go_sem, PtrD.cells, ptrZ, z0, z1, z2, z3, z4, z5, z6, z7, z8, z9, z10, z11]) rfl ⟨by rw [he.out.1, he.out.2], ?_⟩
            repeat (first | (with_reducible exact hb2) | (with_reducible refine keep_alloc ?_ _) | (with_reducible refine below_drewN ?_ _) | (with_reducible refine below_set ?_ _ _ _ (Nat.le_refl _)))
          · have hbig2 : decide ((131072 : Int) ≤ ((subN s 16 4 : Nat) : Int)) = false := decide_eq_false (by omega)
            cases hz : allZ (s.drop 56) with
            | false =>
              have he : Hid (readE s = 3 ∧ readV s = ptrZ) := by
                have : readE s = 3 := by unfold readE; rw [if_neg h1, if_neg h2, if_neg hbig, hz]; rfl
                unfold Hid readV; rw [this]; exact ⟨rfl, rfl⟩
              rw [hz] at HZR
              clear hz
              generalize s.drop 56 = rest at *
              go_wp2_with fail
              refine (HZR.out _).mono ?_
              rintro e w4 ⟨rfl, rfl⟩
              go_wp2_with fail
              refine bodyPost_ret (v := .tuple #[.agg ptrZ.cells, .int .i64 3]) (by simp [results, Tryz.results92, go_sem, PtrD.cells, ptrZ, z0, z1, z2, z3, z4, z5, z6, z7, z8, z9, z10, z11]) rfl ⟨by rw [he.out.1, he.out.2], ?_⟩
              repeat (first | (with_reducible exact hb2) | (with_reducible refine keep_alloc ?_ _) | (with_reducible refine below_drewN ?_ _) | (with_reducible refine below_set ?_ _ _ _ (Nat.le_refl _)))
            | true =>
              have he : Hid (readE s = 0 ∧ readV s = readP s) := by
                have : readE s = 0 := by unfold readE; rw [if_neg h1, if_neg h2, if_neg hbig, if_pos hz]
                unfold Hid readV; rw [this]; exact ⟨rfl, rfl⟩
              rw [hz] at HZR
              clear hz
              generalize s.drop 56 = rest at *
              go_wp2_with fail
              refine (HZR.out _).mono ?_
              rintro e w4 ⟨rfl, rfl⟩
              clear z0 z1 z2 z3 z4 z5 z6 z7 z8 z9 z10 z11 f0 f1 f2 f3 f4 f5 f6 f7 f8 f9 f10 f11
              clear hX hlr p1 HZR
              repeat' (first
                | go_values
                | go_skip
                | go_guarded
                | ((fail_if_success (with_reducible refine drawn_mark ?_))
                   first
                     | go_step
                     | go_upon
                     | go_back
                     | (simp only [Int.not_lt, Int.not_le] at *; go_simp)
                     | (go_values <;> (try go_simp))
                     | (go_ite <;> go_prune <;> (try go_simp))
                     | (split <;> (first | (rename_i hx; exact (hx _ rfl).elim) | go_prune))))
              have hg0 : g < wr.heap.size := hglt
              go_region_held3 (fun W => W.cell? ⟨g, 0, none⟩ = some (.int .i64 (subN s 0 4 : Nat)) ∧ W.cell? ⟨g, 1, none⟩ = some (.int .i64 (subN s 4 4 : Nat)) ∧ W.cell? ⟨g, 2, none⟩ = some (.int .i64 (subN s 8 4 : Nat)) ∧ W.cell? ⟨g, 3, none⟩ = some (.int .i64 (subN s 12 4 : Nat)) ∧
                  W.cell? ⟨g, 4, none⟩ = some (.int .i64 (subN s 16 4 : Nat)) ∧ W.cell? ⟨g, 5, none⟩ = some (.int .i64 (subN s 20 4 : Nat))) (go_keep) (fail)
              have t1 : ((subN s 16 4 : Nat) : Int).tmod 256 = ((subN s 16 4 : Nat) : Int) % 256 := by rw [Int.tmod_eq_emod_of_nonneg (by omega)]
              have t2 : (IntKind.i64.wrap (((subN s 16 4 : Nat) : Int) / 256)).tmod 256 = ((subN s 16 4 : Nat) : Int) / 256 % 256 := by
                rw [IntWalk.i64_in (((subN s 16 4 : Nat) : Int) / 256) (by omega), Int.tmod_eq_emod_of_nonneg (by omega)]
              have t3 : decide ((65536 : Int) ≤ ((subN s 16 4 : Nat) : Int)) = decide (65536 ≤ subN s 16 4) := decide_eq_decide.2 (by omega)
              rw [t1, t2, t3]
              obtain ⟨W1, hW1⟩ : ∃ W1, W1 = (wr.alloc (.cells (pBase s 0) 31)).drew := ⟨_, rfl⟩
              have hB1 : Blk W1 wr.heap.size 31 (pBase s 0) := by rw [hW1]; exact Blk.new wr 31 (pBase s 0)
              have hZ1 : Blk W1 w.heap.size 31 ptrZ.cells := by rw [hW1]; exact HZ.out.alloc _
              have hb3 : Below w.heap.size w W1 := by rw [hW1]; exact (hb2.alloc hb2.size _).drew
              rw [pBase_zero] at hW1
              rw [← hW1]
              clear hW1 t1 t2 t3 HZ
              have HB1 := Lib.hid hB1
              have HZ1 := Lib.hid hZ1
              generalize hP : wr.heap.size = P at *
              have hPw : w.heap.size < P := by omega
              clear hB1 hZ1 x0 x1 x2 x3 x4 x5 hb2 hP
              clear ‹_ ∧ _ ∧ _ ∧ _ ∧ _ ∧ _›
              go_wp2_with fail
              go_loopw [7] (fun t wr => ∃ k : Nat, k ≤ 4 ∧ t = .int .i64 k ∧ Blk wr P 31 (pBase s k) ∧ Blk wr w.heap.size 31 ptrZ.cells ∧ Below w.heap.size w wr) (fun t _ => 4 - (RowKit.intOf t).toNat)
              case atStart => exact ⟨0, by omega, rfl, HB1.out, HZ1.out, hb3⟩
              case round =>
                obtain ⟨k, hk4, rfl, hB, hZ, hbw⟩ := hrel
                by_cases hlt4 : k < 4
                · have hsl := HL.out
                  have hX := rd_extract s (24 + 8 * k) 8
                  have hN := fun W => numRef_any ((s.drop (24 + 8 * k)).take 8) W (by rw [List.length_take]; omega)
                  have hV : Hid (leNat ((s.drop (24 + 8 * k)).take 8) = subN s (24 + 8 * k) 8) := Lib.hid rfl
                  have hVb := subN_lt s (24 + 8 * k) 8
                  have ht1 : (24 + 8 * (k : Int)).toNat = 24 + 8 * k := by omega
                  have ht2 : (32 + 8 * (k : Int)).toNat = 24 + 8 * k + 8 := by omega
                  have q1 : 32 + 8 * (k : Int) ≤ s.length := by omega
                  have q2 : (0 : Int) ≤ 24 + 8 * (k : Int) := by omega
                  have q3 : 24 + 8 * (k : Int) ≤ 32 + 8 * (k : Int) := by omega
                  have HS := Lib.hid (pBase_put s k hlt4)
                  rw [hV.out] at hN
                  have HN := Lib.hid hN
                  have HB := Lib.hid hB
                  have HZ := Lib.hid hZ
                  obtain ⟨v, hv⟩ := pBase_at s k k hlt4
                  have c1 := hB.at_ hv
                  have f1 := hB.fr (8 + k)
                  have i0 : (0 : Int) ≤ k := by omega
                  have i1 : (k : Int) < 4 := by omega
                  clear hN hV hsl hB hZ hv
                  generalize (s.drop (24 + 8 * k)).take 8 = part at *
                  generalize subN s (24 + 8 * k) 8 = V at *
                  go_wp2_with fail
                  refine (HN.out _).mono ?_
                  rintro e w2 ⟨rfl, rfl⟩
                  go_wp2_with fail
                  go_roundw
                  case rel =>
                    refine ⟨k + 1, by omega, by go_num, ?_, HZ.out.far (by simp; omega) _, below_set hbw _ _ _ (by omega)⟩
                    rw [← HS.out]; exact HB.out.put (8 + k) _
                  case measure => simp [RowKit.intOf]; omega
                · obtain rfl : k = 4 := by omega
                  have y0 := hB.at_ (i := 0) (v := .int .i64 (subN s 0 4 : Nat)) rfl
                  have y1 := hB.at_ (i := 1) (v := .int .i64 (subN s 4 4 : Nat)) rfl
                  have y2 := hB.at_ (i := 2) (v := .int .i64 (subN s 8 4 : Nat)) rfl
                  have y3 := hB.at_ (i := 3) (v := .int .i64 (subN s 12 4 : Nat)) rfl
                  have y4 := hB.at_ (i := 4) (v := .bool (decide (65536 ≤ subN s 16 4))) rfl
                  have y5 := hB.at_ (i := 5) (v := .int .i64 (((subN s 16 4 : Nat) : Int) % 256)) rfl
                  have y6 := hB.at_ (i := 6) (v := .int .i64 (((subN s 16 4 : Nat) : Int) / 256 % 256)) rfl
                  have y7 := hB.at_ (i := 7) (v := .int .i64 (subN s 20 4 : Nat)) rfl
                  have y8 := hB.at_ (i := 8) (v := .int .u64 (subN s 24 8 : Nat)) rfl
                  have y9 := hB.at_ (i := 9) (v := .int .u64 (subN s 32 8 : Nat)) rfl
                  have y10 := hB.at_ (i := 10) (v := .int .u64 (subN s 40 8 : Nat)) rfl
                  have y11 := hB.at_ (i := 11) (v := .int .u64 (subN s 48 8 : Nat)) rfl
                  have z0 := hZ.at_ (i := 0) (v := .int .i64 0) rfl
                  have f0 := hZ.fr 0
                  have z1 := hZ.at_ (i := 1) (v := .int .i64 0) rfl
                  have f1 := hZ.fr 1
                  have z2 := hZ.at_ (i := 2) (v := .int .i64 0) rfl
                  have f2 := hZ.fr 2
                  have z3 := hZ.at_ (i := 3) (v := .int .i64 0) rfl
                  have f3 := hZ.fr 3
                  have z4 := hZ.at_ (i := 4) (v := .bool false) rfl
                  have f4 := hZ.fr 4
                  have z5 := hZ.at_ (i := 5) (v := .int .i64 0) rfl
                  have f5 := hZ.fr 5
                  have z6 := hZ.at_ (i := 6) (v := .int .i64 0) rfl
                  have f6 := hZ.fr 6
                  have z7 := hZ.at_ (i := 7) (v := .int .i64 0) rfl
                  have f7 := hZ.fr 7
                  have z8 := hZ.at_ (i := 8) (v := .int .u64 0) rfl
                  have f8 := hZ.fr 8
                  have z9 := hZ.at_ (i := 9) (v := .int .u64 0) rfl
                  have f9 := hZ.fr 9
                  have z10 := hZ.at_ (i := 10) (v := .int .u64 0) rfl
                  have f10 := hZ.fr 10
                  have z11 := hZ.at_ (i := 11) (v := .int .u64 0) rfl
                  have f11 := hZ.fr 11
                  go_wp2_with fail
                  refine bodyPost_ret (v := .tuple #[.agg (readP s).cells, .int .i64 0]) (by simp [results, Tryz.results92, go_sem, PtrD.cells, readP, z0, z1, z2, z3, z4, z5, z6, z7, z8, z9, z10, z11]) rfl ⟨by rw [he.out.1, he.out.2], ?_⟩
                  repeat (first | (with_reducible exact hbw) | (with_reducible refine below_set ?_ _ _ _ (Nat.le_refl _)))
end Go.Proofs.YtlpbbjjibnbooaaGreatDoor

namespace Go.Proofs.YtlpbbjjibnbooaaGreatDoor
set_option linter.unusedVariables false
set_option linter.unusedSimpArgs false
open Go.RowKit

theorem word_cut (P : List UInt8) (W : World) (k : Nat) (h : 4 * k + 4 ≤ P.length) : (Instr.slice 9 (str P) (some (.int .i64 (4 * (k : Int)))) (some (.int .i64 (4 * (k : Int) + 4))) none).run Tryz.prog W = .ok (str ((P.drop (4 * k)).take 4)) W := by
  have := run_slice_string (P := Tryz.prog) W 9 (ByteArray.mk P.toArray) .i64 .i64 (4 * (k : Int)) (4 * (k : Int) + 4) Tryz.underlying9 (by omega) (by omega) (by simp [ByteArray.size]; omega)
  rw [this]
  have e1 : (4 * (k : Int)).toNat = 4 * k := by omega
  have e2 : (4 * (k : Int) + 4).toNat = 4 * k + 4 := by omega
  have e3 : (ByteArray.mk P.toArray).extract (4 * k) (4 * k + 4) = ⟨((P.drop (4 * k)).take 4).toArray⟩ := by
    apply ByteArray.ext
    have h6 : (4 * k + 4) - 4 * k = 4 := by omega
    simp only [ByteArray.data_extract, List.extract_toArray, List.extract_eq_take_drop, h6]
  rw [e1, e2, e3]
set_option maxRecDepth 20000 in
set_option maxHeartbeats 1000000 in
theorem refMoreU_any (x : Nat × Nat × Nat × Nat) (s : List UInt8) (hl : s.length ≤ 100000) (w : World) : Calls Tryz.prog 89 #[.agg (fcells x), str s] w fun e w' => e = .returned (.agg (fcells ((wordsL s).foldl fstep x))) ∧ Below w.heap.size w w' := by
  obtain ⟨w2, hw2⟩ : ∃ z, (w.alloc (.cells (fcells x) 29)).alloc (.cells #[.int .u64 0, .int .u64 0, .int .u64 0, .int .u64 0] 29) = z := ⟨_, rfl⟩
  have B1 : Blk w2 w.heap.size 29 (fcells x) := by rw [← hw2]; exact (Blk.new _ _ _).alloc _
  have B2 : Blk w2 (w.heap.size + 1) 29 #[.int .u64 0, .int .u64 0, .int .u64 0, .int .u64 0] := by rw [← hw2]; exact Blk.new2 _ _ _ _
  have D2 : Below w.heap.size w w2 := by rw [← hw2]; exact keep_alloc (keep_alloc (Below.refl _ _) _) _
  have hp4 := padL_4 s
  have hwl := words_len s
  have hwa := fun k (hk : k < (wordsL s).length) => words_at hk
  have HPD := Lib.hid (refPad_any s 4 w2 (by omega))
  obtain ⟨P, hP⟩ : ∃ P, padL s 4 = P := ⟨_, rfl⟩
  rw [hP] at HPD hp4 hwl hwa
  obtain ⟨ws, hws⟩ : ∃ ws, wordsL s = ws := ⟨_, rfl⟩
  rw [hws] at hwl hwa
  rw [hws]
  have HW := Lib.hid (And.intro hwl hwa)
  have HPL := Lib.hid hp4
  have HB := Lib.hid (And.intro B1 (And.intro B2 D2))
  have HW2 := Lib.hid hw2
  clear B1 B2 D2 hp4 hwl hwa hP hws hw2
  go_enter Tryz.func89, Tryz.ntmps89
  go_wp2_with fail
  rw [HW2.out]
  refine HPD.out.mono ?_
  rintro e w3 ⟨rfl, hb3⟩
  have H3 := Lib.hid (And.intro (HB.out.1.below hb3 HB.out.1.lt) (And.intro (HB.out.2.1.below hb3 HB.out.2.1.lt) (keep_below hb3 HB.out.2.2)))
  have hPl : P.length ≤ 100003 := by have := HPL.out.2; omega
  clear hb3
  go_wp2_with fail
  go_loopw [5] (fun t wr => ∃ k : Nat, k ≤ ws.length ∧ t = .int .i64 (4 * (k : Int)) ∧ Blk wr w.heap.size 29 (fcells ((ws.take k).foldl fstep x)) ∧ Blk wr (w.heap.size + 1) 29 #[.int .u64 0, .int .u64 0, .int .u64 0, .int .u64 0] ∧ Below w.heap.size w wr) (fun t _ => P.length - (RowKit.intOf t).toNat)
  case atStart => exact ⟨0, Nat.zero_le _, rfl, H3.out.1, H3.out.2.1, H3.out.2.2⟩
  case round =>
    obtain ⟨k, hk, rfl, hbk, hb0, hbe⟩ := hrel
    have hP4 : P.length = 4 * ws.length := by have := HPL.out.1; have := HW.out.1; omega
    by_cases hlt : k < ws.length
    · have hd1 : decide (4 * (k : Int) < (P.length : Int)) = true := decide_eq_true (by omega)
      have hwk := HW.out.2 k hlt
      have hst : (ws.take (k + 1)).foldl fstep x = fstep ((ws.take k).foldl fstep x) (rdN P (4 * k) 4) := by rw [List.take_add_one, hwk, List.foldl_append]; rfl
      have hrd : rdN P (4 * k) 4 = leNat ((P.drop (4 * k)).take 4) := by unfold rdN; rw [if_neg (by omega)]
      have hk4 : IntKind.i64.wrap (4 * (k : Int) + 4) = 4 * (k : Int) + 4 := (IntWalk.i64_left _).trans (IntWalk.wrap64_in _ (by omega))
      have hcut := word_cut P wr.drew k (by omega)
      rw [← hk4] at hcut
      obtain ⟨m, hm⟩ : ∃ m, (P.drop (4 * k)).take 4 = m := ⟨_, rfl⟩
      have hml : m.length ≤ 8 := by rw [← hm, List.length_take]; omega
      rw [hm] at hrd hcut
      rw [hrd] at hst
      obtain ⟨v, hv⟩ : ∃ v, leNat m = v := ⟨_, rfl⟩
      have HN := Lib.hid ((numRef_any m wr.drew hml).mono (fun e w' h => (⟨h.1, h.2.symm⟩ : e = .returned (.int .u64 (leNat m : Nat)) ∧ w' = wr.drew)))
      rw [hv] at HN hst
      obtain ⟨⟨y1, y2, y3, y4⟩, hy⟩ : ∃ y, (ws.take k).foldl fstep x = y := ⟨_, rfl⟩
      rw [hy] at hst hbk
      obtain ⟨z1, hz1⟩ : ∃ z1, (y1 + v) % M64 = z1 := ⟨_, rfl⟩
      obtain ⟨z2, hz2⟩ : ∃ z2, (y2 + z1) % M64 = z2 := ⟨_, rfl⟩
      obtain ⟨z3, hz3⟩ : ∃ z3, (y3 + z2) % M64 = z3 := ⟨_, rfl⟩
      obtain ⟨z4, hz4⟩ : ∃ z4, (y4 + z3) % M64 = z4 := ⟨_, rfl⟩
      have hs1 := wrap_sum y1 v
      have hs2 := wrap_sum y2 z1
      have hs3 := wrap_sum y3 z2
      have hs4 := wrap_sum y4 z3
      rw [hz1] at hs1
      rw [hz2] at hs2
      rw [hz3] at hs3
      rw [hz4] at hs4
      have hfs : fstep (y1, y2, y3, y4) v = (z1, z2, z3, z4) := by unfold fstep; rw [← hz4, ← hz3, ← hz2, ← hz1]
      rw [hfs] at hst
      have HST := Lib.hid hst
      have c0 : wr.cell? ⟨w.heap.size, 0, none⟩ = some (.int .u64 y1) := hbk.at_ rfl
      have c1 : wr.cell? ⟨w.heap.size, 1, none⟩ = some (.int .u64 y2) := hbk.at_ rfl
      have c2 : wr.cell? ⟨w.heap.size, 2, none⟩ = some (.int .u64 y3) := hbk.at_ rfl
      have c3 : wr.cell? ⟨w.heap.size, 3, none⟩ = some (.int .u64 y4) := hbk.at_ rfl
      have f0 := hbk.fr 0
      have f1 := hbk.fr 1
      have f2 := hbk.fr 2
      have f3 := hbk.fr 3
      have HBK := Lib.hid (((((hbk.put 0 (.int .u64 z1)).put 1 (.int .u64 z2)).put 2 (.int .u64 z3)).put 3 (.int .u64 z4)))
      have HB0 := Lib.hid hb0
      have HBE := Lib.hid hbe
      have HLT := Lib.hid hlt
      have hP4' := Lib.hid hP4
      have HP4' := Lib.hid hP4
      clear hk4 hst hfs hy hz1 hz2 hz3 hz4 hv hm hrd hwk hbk hb0 hbe hlt hk hP4 hml
      go_wp2_with fail
      refine wp_region_still_tail 9 (by kernel_rfl) (by kernel_rfl) ?_
      simp only [List.take_succ_cons, List.take_zero, List.drop_succ_cons, List.drop_zero]
      repeat still_step
      still_call HN.out
      repeat still_step
      try refine wpStill_nil ?_
      change wpList _ _ _ _ _ wr.drew
      go_wp2_with fail
      go_roundw
      case rel =>
        have hne : w.heap.size + 1 ≠ w.heap.size := by omega
        exact ⟨k + 1, HLT.out, by rw [IntWalk.wrap64_in _ (by have := HP4'.out; have := HLT.out; omega)]; congr 1, by rw [HST.out]; exact HBK.out,
          (Below.heap_setCell _ _ _ _ hne).trans ((Below.heap_setCell _ _ _ _ hne).trans ((Below.heap_setCell _ _ _ _ hne).trans ((Below.heap_setCell _ _ _ _ hne).trans HB0.out))),
          (below_set (below_set (below_set (below_set HBE.out _ _ _ (Nat.le_refl _)) _ _ _ (Nat.le_refl _)) _ _ _ (Nat.le_refl _)) _ _ _ (Nat.le_refl _)).drew⟩
      case measure =>
        rw [IntWalk.wrap64_in _ (by have := HP4'.out; have := HLT.out; omega)]
        have := HP4'.out
        have := HLT.out
        simp [RowKit.intOf]
        omega
    · obtain rfl : k = ws.length := by omega
      have hd1 : decide (4 * (ws.length : Int) < (P.length : Int)) = false := decide_eq_false (by omega)
      rw [List.take_length] at hbk
      obtain ⟨S, hS⟩ : ∃ S, ws.foldl fstep x = S := ⟨_, rfl⟩
      rw [hS] at hbk
      have HSS := Lib.hid hS
      have c0 : wr.cell? ⟨w.heap.size, 0, none⟩ = some (.int .u64 S.1) := hbk.at_ rfl
      have c1 : wr.cell? ⟨w.heap.size, 1, none⟩ = some (.int .u64 S.2.1) := hbk.at_ rfl
      have c2 : wr.cell? ⟨w.heap.size, 2, none⟩ = some (.int .u64 S.2.2.1) := hbk.at_ rfl
      have c3 : wr.cell? ⟨w.heap.size, 3, none⟩ = some (.int .u64 S.2.2.2) := hbk.at_ rfl
      have f0 := hb0.fr 0
      have f1 := hb0.fr 1
      have f2 := hb0.fr 2
      have f3 := hb0.fr 3
      have z0 := hb0.at_ (i := 0) (v := .int .u64 0) rfl
      have z1 := hb0.at_ (i := 1) (v := .int .u64 0) rfl
      have z2 := hb0.at_ (i := 2) (v := .int .u64 0) rfl
      have z3 := hb0.at_ (i := 3) (v := .int .u64 0) rfl
      have HP := Lib.hid ((((hb0.put 0 (.int .u64 S.1)).put 1 (.int .u64 S.2.1)).put 2 (.int .u64 S.2.2.1)).put 3 (.int .u64 S.2.2.2))
      have HB3 := Lib.hid hbe
      clear hbk hb0 hbe hS hk hP4
      go_wp2_with fail
      have e0 := HP.out.at_ (i := 0) (v := .int .u64 S.1) rfl
      have e1 := HP.out.at_ (i := 1) (v := .int .u64 S.2.1) rfl
      have e2 := HP.out.at_ (i := 2) (v := .int .u64 S.2.2.1) rfl
      have e3 := HP.out.at_ (i := 3) (v := .int .u64 S.2.2.2) rfl
      refine bodyPost_ret (v := .agg (fcells S)) (by simp [results, Tryz.f89, go_sem, e0, e1, e2, e3]) rfl ⟨by rw [HSS.out], below_set (below_set (below_set (below_set HB3.out _ _ _ (by omega)) _ _ _ (by omega)) _ _ _ (by omega)) _ _ _ (by omega)⟩
theorem refSumU_any (s : List UInt8) (hl : s.length ≤ 100000) (w : World) : Calls Tryz.prog 52 #[str s] w fun e w' => e = .returned (.agg (fcells (fsum s))) ∧ Below w.heap.size w w' := by
  obtain ⟨w2, hw2⟩ : ∃ z, w.alloc (.cells #[.int .u64 0, .int .u64 0, .int .u64 0, .int .u64 0] 29) = z := ⟨_, rfl⟩
  have B2 : Blk w2 w.heap.size 29 #[.int .u64 0, .int .u64 0, .int .u64 0, .int .u64 0] := by rw [← hw2]; exact Blk.new _ _ _
  have D2 : Below w.heap.size w w2 := by rw [← hw2]; exact keep_alloc (Below.refl _ _) _
  have HB2 := Lib.hid B2
  have HD2 := Lib.hid D2
  have HW2 := Lib.hid hw2
  have HM := Lib.hid (refMoreU_any (0, 0, 0, 0) s hl w2)
  clear B2 D2 hw2
  go_enter Tryz.func52, Tryz.ntmps52
  go_wp2_with fail
  rw [HW2.out]
  refine HM.out.mono ?_
  rintro e w3 ⟨rfl, hb3⟩
  have h2 := HB2.out.below hb3 HB2.out.lt
  obtain ⟨S, hS⟩ : ∃ S, (wordsL s).foldl fstep (0, 0, 0, 0) = S := ⟨_, rfl⟩
  have hF : fsum s = S := hS
  have HF := Lib.hid hF
  have f0 := h2.fr 0
  have f1 := h2.fr 1
  have f2 := h2.fr 2
  have f3 := h2.fr 3
  have z0 := h2.at_ (i := 0) (v := .int .u64 0) rfl
  have z1 := h2.at_ (i := 1) (v := .int .u64 0) rfl
  have z2 := h2.at_ (i := 2) (v := .int .u64 0) rfl
  have z3 := h2.at_ (i := 3) (v := .int .u64 0) rfl
  have HP := Lib.hid ((((h2.put 0 (.int .u64 S.1)).put 1 (.int .u64 S.2.1)).put 2 (.int .u64 S.2.2.1)).put 3 (.int .u64 S.2.2.2))
  have HB3 := Lib.hid (keep_below hb3 HD2.out)
  rw [hS]
  clear hb3 h2 hF hS
  go_wp2_with fail
  have e0 := HP.out.at_ (i := 0) (v := .int .u64 S.1) rfl
  have e1 := HP.out.at_ (i := 1) (v := .int .u64 S.2.1) rfl
  have e2 := HP.out.at_ (i := 2) (v := .int .u64 S.2.2.1) rfl
  have e3 := HP.out.at_ (i := 3) (v := .int .u64 S.2.2.2) rfl
  refine bodyPost_ret (v := .agg (fcells S)) (by simp [results, Tryz.f52, go_sem, e0, e1, e2, e3]) rfl ⟨by rw [HF.out], below_set (below_set (below_set (below_set HB3.out _ _ _ (Nat.le_refl _)) _ _ _ (Nat.le_refl _)) _ _ _ (Nat.le_refl _)) _ _ _ (Nat.le_refl _)⟩
end Go.Proofs.YtlpbbjjibnbooaaGreatDoor

namespace Go.Proofs.YtlpbbjjibnbooaaGreatDoor
set_option linter.unusedVariables false
set_option linter.unusedSimpArgs false
open Go.RowKit

set_option maxRecDepth 20000 in
set_option maxHeartbeats 1000000 in
theorem refBytes5_any (A : Option Addr) (m c : Nat) (gs : List (Int × Int)) (secs : Int) (w : World) (hg : GeoAt w A m gs) (hr : gRight gs secs = true) :
    Calls Tryz.prog 53 #[.agg #[.slice A m c, .int .i64 secs]] w fun e w' => e = .returned (str (gbL gs secs)) ∧ Below w.heap.size w w' := by
  obtain ⟨w2, hw2⟩ : ∃ z, w.alloc (.cells #[.slice A m c, .int .i64 secs] 24) = z := ⟨_, rfl⟩
  have B1 : Blk w2 w.heap.size 24 #[.slice A m c, .int .i64 secs] := by rw [← hw2]; exact Blk.new _ _ _
  have D1 : Below w.heap.size w w2 := by rw [← hw2]; exact keep_alloc (Below.refl _ _) _
  have hml : gs.length = m := hg.1
  have hm : gs.length ≤ 4 ∧ 0 < gs.length := by
    simp only [gRight, Bool.and_eq_true, decide_eq_true_eq] at hr
    omega
  obtain ⟨hm1, hm0⟩ := hm
  have HG2 := Lib.hid (hg.below D1 (Nat.le_refl _))
  have HB2 := Lib.hid (And.intro B1 D1)
  have HW2 := Lib.hid hw2
  have HE : Hid (gbL gs secs = gbTo gs secs gs.length) := Lib.hid (by unfold gbL; rw [hr]; rfl)
  clear hg B1 D1 hw2 hr
  obtain ⟨C, hCd, hCw, hCB, hCK, hCD⟩ := cls_below w2
  have x0 := HB2.out.1.at_ (i := 0) (v := .slice A m c) rfl
  have x1 := HB2.out.1.at_ (i := 1) (v := .int .i64 secs) rfl
  have f0 : ∀ W, C W → W.cell? ⟨w.heap.size, 0, none⟩ = some (.slice A m c) := fun W h => keepU x0 (hCB W h)
  have f1 : ∀ W, C W → W.cell? ⟨w.heap.size, 1, none⟩ = some (.int .i64 secs) := fun W h => keepU x1 (hCB W h)
  have h1 := u32L_le m
  have h2 := u32L_le secs
  have h0 : gbTo gs secs 0 = u32L m ++ u32L secs := by unfold gbTo; rw [hml]; simp
  have H0 := Lib.hid h0
  obtain ⟨a, ha⟩ : ∃ a, u32L m = a := ⟨_, rfl⟩
  obtain ⟨b, hb⟩ : ∃ b, u32L secs = b := ⟨_, rfl⟩
  have HUA : Hid (∀ W, Calls Tryz.prog 90 #[.int .i64 (m : Int)] W fun e w' => e = .returned (str a) ∧ Below W.heap.size W w') := Lib.hid fun W => by rw [← ha]; exact refU32_any _ W
  have HUB : Hid (∀ W, Calls Tryz.prog 90 #[.int .i64 secs] W fun e w' => e = .returned (str b) ∧ Below W.heap.size W w') := Lib.hid fun W => by rw [← hb]; exact refU32_any _ W
  rw [ha] at h1 H0
  rw [hb] at h2 H0
  have hcc : ¬ 9223372036854775807 < (ByteArray.mk a.toArray).size + (ByteArray.mk b.toArray).size := by simp [ByteArray.size]; omega
  have HC := Lib.hid hCB
  clear x0 x1 h0 ha hb hCw hCB hCD
  go_enter Tryz.func53, Tryz.ntmps53
  repeat' (first
    | go_values
    | go_skip
    | go_guarded
    | ((fail_if_success (with_reducible refine drawn_mark ?_))
       first
         | go_step
         | go_upon
         | go_back
         | (simp only [Int.not_lt, Int.not_le] at *; go_simp)
         | (go_values <;> (try go_simp))
         | (go_ite <;> go_prune <;> (try go_simp))
         | (split <;> (first | (rename_i hx; exact (hx _ rfl).elim) | go_prune))))
  rw [HW2.out]
  refine wp_region_cls C (by kernel_rfl) (by kernel_rfl) hCd ?_
  repeat (first
    | go_big_quiet_skip
    | (go_big_quiet_want
       go_big_quiet_op
       first
         | go_big_quiet_on
         | (apply Exists.intro
            refine ⟨fun W hW => ?_, ?_⟩
            · first
                | exact rfl
                | exact ⟨rfl, rfl⟩
                | (have e0 := f0 W hW; have e1 := f1 W hW; simp only [e0, e1, Result.andThen_ok]; done)
                | (have e0 := f0 W hW; have e1 := f1 W hW; simp only [e0, e1, Result.andThen_ok]; first | exact ⟨trivial, rfl⟩ | exact rfl | exact ⟨rfl, rfl⟩)
                | (first | (with_reducible refine (HUA.out W).mono ?_; rintro e w' ⟨rfl, hb⟩; exact ⟨rfl, hCK _ _ hW hb⟩) | (with_reducible refine (HUB.out W).mono ?_; rintro e w' ⟨rfl, hb⟩; exact ⟨rfl, hCK _ _ hW hb⟩))
            go_big_quiet_on)))
  refine wpQuiet_nil ?_
  intro w3 hw3
  have hb3 := HC.out w3 hw3
  have HB3 := Lib.hid (And.intro (HB2.out.1.below hb3 HB2.out.1.lt) (keep_below hb3 HB2.out.2))
  have HG3 := Lib.hid (HG2.out.below hb3 (Nat.le_refl _))
  rw [str_cat18, ← H0.out]
  clear f0 f1 hCd hw3 hb3 hcc h1 h2 HUA HUB hCK
  have hg3 := HG3.out
  obtain ⟨gb, gof, rfl, hgc⟩ := hg3.2.2 (by omega)
  go_wp2_with fail
  go_loopw [3, 4] (fun out t wr => ∃ k : Nat, k ≤ m ∧ out = str (gbTo gs secs k) ∧ t = .int .i64 k ∧ Below w3.heap.size w3 wr) (fun _ t _ => m - (RowKit.intOf t).toNat)
  case atStart => exact ⟨0, Nat.zero_le _, rfl, rfl, Below.refl _ _⟩
  case round =>
    obtain ⟨k, hk, rfl, rfl, hb⟩ := hrel
    have hle := gbTo_len gs secs k
    have HB := Lib.hid hb
    have y0 := (HB3.out.1.below hb HB3.out.1.lt).at_ (i := 0) (v := .slice (some ⟨gb, gof, none⟩) m c) rfl
    by_cases hlt : k < m
    · obtain ⟨x, hx⟩ : ∃ x, gs[k]? = some x := ⟨_, List.getElem?_eq_getElem (by omega)⟩
      have hst := gbTo_step (secs := secs) hx
      have q0 := keepU (hgc.2 k x hx).1 hb
      have q1 := keepU (hgc.2 k x hx).2 hb
      obtain ⟨P, hP⟩ : ∃ P, gbTo gs secs k = P := ⟨_, rfl⟩
      obtain ⟨a2, ha2⟩ : ∃ a, u32L x.1 = a := ⟨_, rfl⟩
      obtain ⟨b2, hb2⟩ : ∃ b, u32L x.2 = b := ⟨_, rfl⟩
      have h1 := u32L_le x.1
      have h2 := u32L_le x.2
      have HUA : Hid (∀ W, Calls Tryz.prog 90 #[.int .i64 x.1] W fun e w' => e = .returned (str a2) ∧ Below W.heap.size W w') := Lib.hid fun W => by rw [← ha2]; exact refU32_any _ W
      have HUB : Hid (∀ W, Calls Tryz.prog 90 #[.int .i64 x.2] W fun e w' => e = .returned (str b2) ∧ Below W.heap.size W w') := Lib.hid fun W => by rw [← hb2]; exact refU32_any _ W
      rw [hP] at hst hle ⊢
      rw [ha2] at hst h1
      rw [hb2] at hst h2
      have hk1 : P.length + a2.length ≤ 9223372036854775807 := by omega
      have hk2 : P.length + a2.length + b2.length ≤ 9223372036854775807 := by omega
      obtain ⟨C, hCd, hCw, hCB, hCK, hCD⟩ := cls_below wr
      have f0 : ∀ W, C W → W.cell? ⟨w.heap.size, 0, none⟩ = some (.slice (some ⟨gb, gof, none⟩) m c) := fun W h => keepU y0 (hCB W h)
      have f1 : ∀ W, C W → W.cell? ⟨gb, gof + k * 2, none⟩ = some (.int .i64 x.1) := fun W h => keepU q0 (hCB W h)
      have f2 : ∀ W, C W → W.cell? ⟨gb, gof + k * 2 + 1, none⟩ = some (.int .i64 x.2) := fun W h => keepU q1 (hCB W h)
      have HC := Lib.hid hCB
      have HST := Lib.hid hst
      have hd : decide (k < m) = true := decide_eq_true hlt
      clear hst hx ha2 hb2 hP hb hCw hCB hCD hgc h1 h2 hle
      repeat' (first
        | go_values
        | go_skip
        | go_guarded
        | ((fail_if_success (with_reducible refine drawn_mark ?_))
           first
             | go_step
             | go_upon
             | go_back
             | (simp only [Int.not_lt, Int.not_le] at *; go_simp)
             | (go_values <;> (try go_simp))
             | (go_ite <;> go_prune <;> (try go_simp))
             | (split <;> (first | (rename_i hx; exact (hx _ rfl).elim) | go_prune))))
      refine wp_region_cls C (by kernel_rfl) (by kernel_rfl) hCd ?_
      repeat (first
        | go_big_quiet_skip
        | (go_big_quiet_want
           go_big_quiet_op
           first
             | go_big_quiet_on
             | (apply Exists.intro
                refine ⟨fun W hW => ?_, ?_⟩
                · first
                    | exact rfl
                    | exact ⟨rfl, rfl⟩
                    | (have e0 := f0 W hW; have e1 := f1 W hW; have e2 := f2 W hW; simp only [e0, e1, e2, Result.andThen_ok]; done)
                    | (have e0 := f0 W hW; have e1 := f1 W hW; have e2 := f2 W hW; simp only [e0, e1, e2, Result.andThen_ok]; first | exact ⟨trivial, rfl⟩ | exact rfl | exact ⟨rfl, rfl⟩)
                    | (first | (with_reducible refine (HUA.out W).mono ?_; rintro e w' ⟨rfl, hb⟩; exact ⟨rfl, hCK _ _ hW hb⟩) | (with_reducible refine (HUB.out W).mono ?_; rintro e w' ⟨rfl, hb⟩; exact ⟨rfl, hCK _ _ hW hb⟩))
                go_big_quiet_on)))
      refine wpQuiet_nil ?_
      intro w7 hw7
      have HB7 := Lib.hid (keep_below (HC.out w7 hw7) HB.out)
      clear f0 f1 f2 hCd hw7 hk1 hk2 q0 q1 y0
      go_wp2_with fail
      go_roundw
      case rel => exact ⟨k + 1, hlt, by rw [HST.out, ba_app, ba_app, List.append_assoc], by go_num, HB7.out⟩
      case measure => simp [RowKit.intOf]; omega
    · obtain rfl : k = m := by omega
      have hd : decide (k < k) = false := decide_eq_false (by omega)
      have HF := Lib.hid (keep_below hb HB3.out.2)
      clear hb hle
      go_wp2_with fail
      go_ret
      exact ⟨by rw [HE.out, hml]; rfl, HF.out⟩
end Go.Proofs.YtlpbbjjibnbooaaGreatDoor
