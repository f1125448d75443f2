/-
  Contracts of polderref09: Read, Right.
-/
import Derived.Test.YtnagcmfecggllaaDoorPtrRef
import Derived.Test.YtnagcmfecggllaaDoorPtrR
import Derived.Test.YtnagcmfecggllaaDoorRef06
namespace Go.Proofs.YtnagcmfecggllaaDoor
set_option linter.unusedVariables false
set_option linter.unusedSimpArgs false
open Go.RowKit

def intsL (s : List UInt8) (k : Nat) : List Int := (List.range k).map fun i => ((subN s (4 * i) 4 : Nat) : Int)
theorem intsL_step (s : List UInt8) (k : Nat) : intsL s (k + 1) = intsL s k ++ [((subN s (4 * k) 4 : Nat) : Int)] := by simp [intsL, List.range_succ]
theorem intsL_len (s : List UInt8) (k : Nat) : (intsL s k).length = k := by simp [intsL]
theorem Tryd.infoInt : (Tryd.prog.info? 3).map (fun i => (i.zero, i.size, i.bytes)) = some (some (.int .i64 0), 1, 8) := by kernel_rfl
theorem int_new (w : World) (u : Value) (t : TypeId) : ∀ j v, [u][j]? = some v → (w.alloc (.cells #[u] t)).cell? ((⟨w.heap.size, 0, none⟩ : Addr).add j) = some v := by
  intro j v hj
  match j, hj with
  | 0, hj => simp at hj; subst hj; simp [Addr.add]

def pBase (s : List UInt8) (k : Nat) : Array Value := #[.int .i64 (subN s 0 4 : Nat), .int .i64 (subN s 4 4 : Nat), .int .i64 (subN s 8 4 : Nat), .int .i64 (subN s 12 4 : Nat), .bool (decide (65536 ≤ subN s 16 4)),
  .int .i64 (((subN s 16 4 : Nat) : Int) % 256), .int .i64 (((subN s 16 4 : Nat) : Int) / 256 % 256), .int .i64 (subN s 20 4 : Nat), .int .u64 (if 0 < k then subN s 24 8 else 0 : Nat), .int .u64 (if 1 < k then subN s 32 8 else 0 : Nat), .int .u64 (if 2 < k then subN s 40 8 else 0 : Nat), .int .u64 (if 3 < k then subN s 48 8 else 0 : Nat)]
theorem pBase_zero (s : List UInt8) : pBase s 0 = #[.int .i64 (subN s 0 4 : Nat), .int .i64 (subN s 4 4 : Nat), .int .i64 (subN s 8 4 : Nat), .int .i64 (subN s 12 4 : Nat), .bool (decide (65536 ≤ subN s 16 4)),
  .int .i64 (((subN s 16 4 : Nat) : Int) % 256), .int .i64 (((subN s 16 4 : Nat) : Int) / 256 % 256), .int .i64 (subN s 20 4 : Nat), .int .u64 0, .int .u64 0, .int .u64 0, .int .u64 0] := rfl
theorem pBase_put (s : List UInt8) : ∀ k, k < 4 → (pBase s k).setIfInBounds (8 + k) (.int .u64 (subN s (24 + 8 * k) 8 : Nat)) = pBase s (k + 1)
  | 0, _ => rfl
  | 1, _ => rfl
  | 2, _ => rfl
  | 3, _ => rfl
theorem pBase_at (s : List UInt8) (k j : Nat) (h : k < 4) : ∃ v, (pBase s j)[8 + k]? = some v := ⟨_, Array.getElem?_eq_getElem (by simp [pBase]; omega)⟩

set_option maxRecDepth 100000 in
set_option maxHeartbeats 4000000 in
theorem refRead9_any (s : List UInt8) (w : World) (hl : s.length ≤ 140737488351232) :
    Calls Tryd.prog 11 #[str s] w fun e w' => e = .returned (.tuple #[.agg (readV s).cells, .int .i64 (readE s)]) ∧ Below w.heap.size w w' := by
  by_cases h1 : s.length < 64
  · have he : Hid (readE s = 2 ∧ readV s = ptrZ) := by
      have : readE s = 2 := by unfold readE; rw [if_pos h1]
      unfold Hid readV; rw [this]; exact ⟨rfl, rfl⟩
    rw [he.out.1, he.out.2]
    go_enter Tryd.func11, Tryd.ntmps11
    go_wp2_with fail
    refine bodyPost_ret (v := .tuple #[.agg ptrZ.cells, .int .i64 2]) (by simp [results, Tryd.results11, go_sem, PtrD.cells, ptrZ]) rfl ⟨rfl, ?_⟩
    exact (Below.refl _ _).alloc (Nat.le_refl _) _
  · by_cases h2 : 64 < s.length
    · have he : Hid (readE s = 3 ∧ readV s = ptrZ) := by
        have : readE s = 3 := by unfold readE; rw [if_neg h1, if_pos h2]
        unfold Hid readV; rw [this]; exact ⟨rfl, rfl⟩
      rw [he.out.1, he.out.2]
      go_enter Tryd.func11, Tryd.ntmps11
      go_wp2_with fail
      refine bodyPost_ret (v := .tuple #[.agg ptrZ.cells, .int .i64 3]) (by simp [results, Tryd.results11, go_sem, PtrD.cells, ptrZ]) rfl ⟨rfl, ?_⟩
      exact (Below.refl _ _).alloc (Nat.le_refl _) _
    · have h3 : s.length = 64 := by omega
      have HL := Lib.hid h3
      clear h3
      obtain ⟨i0, hi, hz0, hz1, hz2⟩ := info_parts Tryd.infoInt
      obtain ⟨W0, hW0⟩ : ∃ W0, W0 = w.alloc (.cells ptrZ.cells 28) := ⟨_, rfl⟩
      have hb0 : Below w.heap.size w W0 := by rw [hW0]; exact (Below.refl _ _).alloc (Nat.le_refl _) _
      have hs0 : w.heap.size < W0.heap.size := by rw [hW0]; simp
      have HZ0 : Hid (Blk W0 w.heap.size 28 ptrZ.cells) := by rw [hW0]; exact Lib.hid (Blk.new _ _ _)
      go_enter Tryd.func11, Tryd.ntmps11
      go_wp2_with fail
      have hW0' : W0 = w.alloc (.cells #[.int .i64 0, .int .i64 0, .int .i64 0, .int .i64 0, .bool false, .int .i64 0, .int .i64 0, .int .i64 0, .int .u64 0, .int .u64 0, .int .u64 0, .int .u64 0] 28) := hW0
      rw [← hW0']
      clear hW0 hW0'
      go_loopw [4, 5] (fun v t wr => ∃ k : Nat, k ≤ 6 ∧ t = .int .i64 k ∧ wr.ownsRow W0.heap.size 3 1 v k ((intsL s k).map (Value.int .i64)) ∧ Below W0.heap.size W0 wr) (fun _ t _ => 6 - (intOf t).toNat)
      case atStart => exact ⟨0, Nat.zero_le _, rfl, World.ownsRow_nil _ _ _ _, Below.refl _ _⟩
      case round =>
        obtain ⟨k, hk, rfl, hown, hb⟩ := hrel
        by_cases hlt : k < 6
        · have hsl := HL.out
          have hX := rd_extract s (4 * k) 4
          have hN := fun W => numRef_any ((s.drop (4 * k)).take 4) W (by rw [List.length_take]; omega)
          have hV : Hid (leNat ((s.drop (4 * k)).take 4) = subN s (4 * k) 4) := Lib.hid rfl
          have hVb := subN_lt s (4 * k) 4
          have ht1 : (4 * (k : Int)).toNat = 4 * k := by omega
          have ht2 : (4 * (k : Int) + 4).toNat = 4 * k + 4 := by omega
          have q1 : (4 * (k : Int)) + 4 ≤ s.length := by omega
          have q2 : (0 : Int) ≤ 4 * (k : Int) := by omega
          have q3 : 4 * (k : Int) ≤ 4 * (k : Int) + 4 := by omega
          rw [hV.out] at hN
          have HN := Lib.hid hN
          have hown := hown
          clear hN hV hsl
          generalize (s.drop (4 * k)).take 4 = part at *
          have HS := Lib.hid (intsL_step s k)
          generalize subN s (4 * k) 4 = V at *
          have hVw : IntKind.i64.wrap (V : Int) = (V : Int) := by rw [IntKind.wrap_i64] <;> omega
          go_wp2_with fail
          refine (HN.out _).mono ?_
          rintro e w2 ⟨rfl, rfl⟩
          go_wp2_with (at_builtin; refine wpList_append_own _ rfl _ _ 60 rfl W0.heap.size 3 i0 _ 1 8 Tryd.underlying60 hi hz0 hz1 hz2 rfl (by decide) _ _ _ rfl (hown.alloc _) ⟨wr.heap.size, 0, none⟩ 1 1 [.int .i64 (V : Int)] rfl rfl ?c1 ?c2 (by unfold maxLen; omega) (by omega) ?c5 ?_)
          case c1 => exact int_new _ _ _
          case c2 => intro u hu; simp at hu; subst hu; rfl
          case c5 => have := hb.size; simp; omega
          intro v' w1 hown' hgrow _
          have hown2 : w1.ownsRow W0.heap.size 3 1 v' (k + 1) ((intsL s (k + 1)).map (Value.int .i64)) := by
            rw [HS.out, List.map_append]
            exact hown'
          have hb2 : Below W0.heap.size W0 w1 := (hb.alloc hb.size _).grown hgrow (by have := hb.size; simp; omega) (fun k hk => (hown.lt k hk).1)
          clear hown hown' hgrow
          go_wp2_with fail
          go_roundw
          case rel => exact ⟨k + 1, by omega, by go_num, hown2, hb2⟩
          case measure => simp [intOf]; omega
        · obtain rfl : k = 6 := by omega
          obtain ⟨g, cap, rfl, _, hglt⟩ := hown.form (by omega)
          have hc := hown.cells rfl
          have x0 : wr.cell? ⟨g, 0, none⟩ = some (.int .i64 (subN s 0 4 : Nat)) := by simpa [Addr.add] using hc 0 (.int .i64 (subN s 0 4 : Nat)) rfl
          have x1 : wr.cell? ⟨g, 1, none⟩ = some (.int .i64 (subN s 4 4 : Nat)) := by simpa [Addr.add] using hc 1 (.int .i64 (subN s 4 4 : Nat)) rfl
          have x2 : wr.cell? ⟨g, 2, none⟩ = some (.int .i64 (subN s 8 4 : Nat)) := by simpa [Addr.add] using hc 2 (.int .i64 (subN s 8 4 : Nat)) rfl
          have x3 : wr.cell? ⟨g, 3, none⟩ = some (.int .i64 (subN s 12 4 : Nat)) := by simpa [Addr.add] using hc 3 (.int .i64 (subN s 12 4 : Nat)) rfl
          have x4 : wr.cell? ⟨g, 4, none⟩ = some (.int .i64 (subN s 16 4 : Nat)) := by simpa [Addr.add] using hc 4 (.int .i64 (subN s 16 4 : Nat)) rfl
          have x5 : wr.cell? ⟨g, 5, none⟩ = some (.int .i64 (subN s 20 4 : Nat)) := by simpa [Addr.add] using hc 5 (.int .i64 (subN s 20 4 : Nat)) rfl
          have n4 := subN_lt s 16 4
          have HZ := Lib.hid (HZ0.out.below hb hs0)
          have hb2 := hb0.trans (hb.mono (Nat.le_of_lt hs0))
          have hlr : (s.drop 56).length ≤ 9223372036854775807 := by rw [List.length_drop]; omega
          have HZR := Lib.hid fun W => zeros_any (s.drop 56) W hlr
          have hX := rd_rest s 56 (by have := HL.out; omega)
          have hsz := Nat.lt_of_lt_of_le hs0 hb.size
          have p1 : (56 : Int) ≤ s.length := by have := HL.out; omega
          clear hc hown
          have z0 := HZ.out.at_ (i := 0) (v := .int .i64 0) rfl
          have f0 := HZ.out.fr 0
          have z1 := HZ.out.at_ (i := 1) (v := .int .i64 0) rfl
          have f1 := HZ.out.fr 1
          have z2 := HZ.out.at_ (i := 2) (v := .int .i64 0) rfl
          have f2 := HZ.out.fr 2
          have z3 := HZ.out.at_ (i := 3) (v := .int .i64 0) rfl
          have f3 := HZ.out.fr 3
          have z4 := HZ.out.at_ (i := 4) (v := .bool false) rfl
          have f4 := HZ.out.fr 4
          have z5 := HZ.out.at_ (i := 5) (v := .int .i64 0) rfl
          have f5 := HZ.out.fr 5
          have z6 := HZ.out.at_ (i := 6) (v := .int .i64 0) rfl
          have f6 := HZ.out.fr 6
          have z7 := HZ.out.at_ (i := 7) (v := .int .i64 0) rfl
          have f7 := HZ.out.fr 7
          have z8 := HZ.out.at_ (i := 8) (v := .int .u64 0) rfl
          have f8 := HZ.out.fr 8
          have z9 := HZ.out.at_ (i := 9) (v := .int .u64 0) rfl
          have f9 := HZ.out.fr 9
          have z10 := HZ.out.at_ (i := 10) (v := .int .u64 0) rfl
          have f10 := HZ.out.fr 10
          have z11 := HZ.out.at_ (i := 11) (v := .int .u64 0) rfl
          have f11 := HZ.out.fr 11
          by_cases hbig : 131071 < subN s 16 4
          · have he : Hid (readE s = 3 ∧ readV s = ptrZ) := by
              have : readE s = 3 := by unfold readE; rw [if_neg h1, if_neg h2, if_pos hbig]
              unfold Hid readV; rw [this]; exact ⟨rfl, rfl⟩
            have hbig2 : decide ((131072 : Int) ≤ ((subN s 16 4 : Nat) : Int)) = true := decide_eq_true (by omega)
            go_wp2_with fail
            refine bodyPost_ret (v := .tuple #[.agg ptrZ.cells, .int .i64 3]) (by simp [results, Tryd.results11, go_sem, PtrD.cells, ptrZ, z0, z1, z2, z3, z4, z5, z6, z7, z8, z9, z10, z11]) rfl ⟨by rw [he.out.1, he.out.2], ?_⟩
            repeat (first | (with_reducible exact hb2) | (with_reducible refine keep_alloc ?_ _) | (with_reducible refine below_drewN ?_ _) | (with_reducible refine below_set ?_ _ _ _ (Nat.le_refl _)))
          · have hbig2 : decide ((131072 : Int) ≤ ((subN s 16 4 : Nat) : Int)) = false := decide_eq_false (by omega)
            cases hz : allZ (s.drop 56) with
            | false =>
              have he : Hid (readE s = 3 ∧ readV s = ptrZ) := by
                have : readE s = 3 := by unfold readE; rw [if_neg h1, if_neg h2, if_neg hbig, hz]; rfl
                unfold Hid readV; rw [this]; exact ⟨rfl, rfl⟩
              rw [hz] at HZR
              clear hz
              generalize s.drop 56 = rest at *
              go_wp2_with fail
              refine (HZR.out _).mono ?_
              rintro e w4 ⟨rfl, rfl⟩
              go_wp2_with fail
              refine bodyPost_ret (v := .tuple #[.agg ptrZ.cells, .int .i64 3]) (by simp [results, Tryd.results11, go_sem, PtrD.cells, ptrZ, z0, z1, z2, z3, z4, z5, z6, z7, z8, z9, z10, z11]) rfl ⟨by rw [he.out.1, he.out.2], ?_⟩
              repeat (first | (with_reducible exact hb2) | (with_reducible refine keep_alloc ?_ _) | (with_reducible refine below_drewN ?_ _) | (with_reducible refine below_set ?_ _ _ _ (Nat.le_refl _)))
            | true =>
              have he : Hid (readE s = 0 ∧ readV s = readP s) := by
                have : readE s = 0 := by unfold readE; rw [if_neg h1, if_neg h2, if_neg hbig, if_pos hz]
                unfold Hid readV; rw [this]; exact ⟨rfl, rfl⟩
              rw [hz] at HZR
              clear hz
              generalize s.drop 56 = rest at *
              go_wp2_with fail
              refine (HZR.out _).mono ?_
              rintro e w4 ⟨rfl, rfl⟩
              clear z0 z1 z2 z3 z4 z5 z6 z7 z8 z9 z10 z11 f0 f1 f2 f3 f4 f5 f6 f7 f8 f9 f10 f11
              clear hX hlr p1 HZR
              repeat' (first
                | go_values
                | go_skip
                | go_guarded
                | ((fail_if_success (with_reducible refine drawn_mark ?_))
                   first
                     | go_step
                     | go_upon
                     | go_back
                     | (simp only [Int.not_lt, Int.not_le] at *; go_simp)
                     | (go_values <;> (try go_simp))
                     | (go_ite <;> go_prune <;> (try go_simp))
                     | (split <;> (first | (rename_i hx; exact (hx _ rfl).elim) | go_prune))))
              have hg0 : g < wr.heap.size := hglt
              go_region_held3 (fun W => W.cell? ⟨g, 0, none⟩ = some (.int .i64 (subN s 0 4 : Nat)) ∧ W.cell? ⟨g, 1, none⟩ = some (.int .i64 (subN s 4 4 : Nat)) ∧ W.cell? ⟨g, 2, none⟩ = some (.int .i64 (subN s 8 4 : Nat)) ∧ W.cell? ⟨g, 3, none⟩ = some (.int .i64 (subN s 12 4 : Nat)) ∧
                  W.cell? ⟨g, 4, none⟩ = some (.int .i64 (subN s 16 4 : Nat)) ∧ W.cell? ⟨g, 5, none⟩ = some (.int .i64 (subN s 20 4 : Nat))) (go_keep) (fail)
              have t1 : ((subN s 16 4 : Nat) : Int).tmod 256 = ((subN s 16 4 : Nat) : Int) % 256 := by rw [Int.tmod_eq_emod_of_nonneg (by omega)]
              have t2 : (IntKind.i64.wrap (((subN s 16 4 : Nat) : Int) / 256)).tmod 256 = ((subN s 16 4 : Nat) : Int) / 256 % 256 := by
                rw [IntWalk.i64_in (((subN s 16 4 : Nat) : Int) / 256) (by omega), Int.tmod_eq_emod_of_nonneg (by omega)]
              have t3 : decide ((65536 : Int) ≤ ((subN s 16 4 : Nat) : Int)) = decide (65536 ≤ subN s 16 4) := decide_eq_decide.2 (by omega)
              rw [t1, t2, t3]
              obtain ⟨W1, hW1⟩ : ∃ W1, W1 = (wr.alloc (.cells (pBase s 0) 28)).drew := ⟨_, rfl⟩
              have hB1 : Blk W1 wr.heap.size 28 (pBase s 0) := by rw [hW1]; exact Blk.new wr 28 (pBase s 0)
              have hZ1 : Blk W1 w.heap.size 28 ptrZ.cells := by rw [hW1]; exact HZ.out.alloc _
              have hb3 : Below w.heap.size w W1 := by rw [hW1]; exact (hb2.alloc hb2.size _).drew
              rw [pBase_zero] at hW1
              rw [← hW1]
              clear hW1 t1 t2 t3 HZ
              have HB1 := Lib.hid hB1
              have HZ1 := Lib.hid hZ1
              generalize hP : wr.heap.size = P at *
              have hPw : w.heap.size < P := by omega
              clear hB1 hZ1 x0 x1 x2 x3 x4 x5 hb2 hP
              clear ‹_ ∧ _ ∧ _ ∧ _ ∧ _ ∧ _›
              go_wp2_with fail
              go_loopw [7] (fun t wr => ∃ k : Nat, k ≤ 4 ∧ t = .int .i64 k ∧ Blk wr P 28 (pBase s k) ∧ Blk wr w.heap.size 28 ptrZ.cells ∧ Below w.heap.size w wr) (fun t _ => 4 - (intOf t).toNat)
              case atStart => exact ⟨0, by omega, rfl, HB1.out, HZ1.out, hb3⟩
              case round =>
                obtain ⟨k, hk4, rfl, hB, hZ, hbw⟩ := hrel
                by_cases hlt4 : k < 4
                · have hsl := HL.out
                  have hX := rd_extract s (24 + 8 * k) 8
                  have hN := fun W => numRef_any ((s.drop (24 + 8 * k)).take 8) W (by rw [List.length_take]; omega)
                  have hV : Hid (leNat ((s.drop (24 + 8 * k)).take 8) = subN s (24 + 8 * k) 8) := Lib.hid rfl
                  have hVb := subN_lt s (24 + 8 * k) 8
                  have ht1 : (24 + 8 * (k : Int)).toNat = 24 + 8 * k := by omega
                  have ht2 : (32 + 8 * (k : Int)).toNat = 24 + 8 * k + 8 := by omega
                  have q1 : 32 + 8 * (k : Int) ≤ s.length := by omega
                  have q2 : (0 : Int) ≤ 24 + 8 * (k : Int) := by omega
                  have q3 : 24 + 8 * (k : Int) ≤ 32 + 8 * (k : Int) := by omega
                  have HS := Lib.hid (pBase_put s k hlt4)
                  rw [hV.out] at hN
                  have HN := Lib.hid hN
                  have HB := Lib.hid hB
                  have HZ := Lib.hid hZ
                  obtain ⟨v, hv⟩ := pBase_at s k k hlt4
                  have c1 := hB.at_ hv
                  have f1 := hB.fr (8 + k)
                  have i0 : (0 : Int) ≤ k := by omega
                  have i1 : (k : Int) < 4 := by omega
                  clear hN hV hsl hB hZ hv
                  generalize (s.drop (24 + 8 * k)).take 8 = part at *
                  generalize subN s (24 + 8 * k) 8 = V at *
                  go_wp2_with fail
                  refine (HN.out _).mono ?_
                  rintro e w2 ⟨rfl, rfl⟩
                  go_wp2_with fail
                  go_roundw
                  case rel =>
                    refine ⟨k + 1, by omega, by go_num, ?_, HZ.out.far (by simp; omega) _, below_set hbw _ _ _ (by omega)⟩
                    rw [← HS.out]; exact HB.out.put (8 + k) _
                  case measure => simp [intOf]; omega
                · obtain rfl : k = 4 := by omega
                  have y0 := hB.at_ (i := 0) (v := .int .i64 (subN s 0 4 : Nat)) rfl
                  have y1 := hB.at_ (i := 1) (v := .int .i64 (subN s 4 4 : Nat)) rfl
                  have y2 := hB.at_ (i := 2) (v := .int .i64 (subN s 8 4 : Nat)) rfl
                  have y3 := hB.at_ (i := 3) (v := .int .i64 (subN s 12 4 : Nat)) rfl
                  have y4 := hB.at_ (i := 4) (v := .bool (decide (65536 ≤ subN s 16 4))) rfl
                  have y5 := hB.at_ (i := 5) (v := .int .i64 (((subN s 16 4 : Nat) : Int) % 256)) rfl
                  have y6 := hB.at_ (i := 6) (v := .int .i64 (((subN s 16 4 : Nat) : Int) / 256 % 256)) rfl
                  have y7 := hB.at_ (i := 7) (v := .int .i64 (subN s 20 4 : Nat)) rfl
                  have y8 := hB.at_ (i := 8) (v := .int .u64 (subN s 24 8 : Nat)) rfl
                  have y9 := hB.at_ (i := 9) (v := .int .u64 (subN s 32 8 : Nat)) rfl
                  have y10 := hB.at_ (i := 10) (v := .int .u64 (subN s 40 8 : Nat)) rfl
                  have y11 := hB.at_ (i := 11) (v := .int .u64 (subN s 48 8 : Nat)) rfl
                  have z0 := hZ.at_ (i := 0) (v := .int .i64 0) rfl
                  have f0 := hZ.fr 0
                  have z1 := hZ.at_ (i := 1) (v := .int .i64 0) rfl
                  have f1 := hZ.fr 1
                  have z2 := hZ.at_ (i := 2) (v := .int .i64 0) rfl
                  have f2 := hZ.fr 2
                  have z3 := hZ.at_ (i := 3) (v := .int .i64 0) rfl
                  have f3 := hZ.fr 3
                  have z4 := hZ.at_ (i := 4) (v := .bool false) rfl
                  have f4 := hZ.fr 4
                  have z5 := hZ.at_ (i := 5) (v := .int .i64 0) rfl
                  have f5 := hZ.fr 5
                  have z6 := hZ.at_ (i := 6) (v := .int .i64 0) rfl
                  have f6 := hZ.fr 6
                  have z7 := hZ.at_ (i := 7) (v := .int .i64 0) rfl
                  have f7 := hZ.fr 7
                  have z8 := hZ.at_ (i := 8) (v := .int .u64 0) rfl
                  have f8 := hZ.fr 8
                  have z9 := hZ.at_ (i := 9) (v := .int .u64 0) rfl
                  have f9 := hZ.fr 9
                  have z10 := hZ.at_ (i := 10) (v := .int .u64 0) rfl
                  have f10 := hZ.fr 10
                  have z11 := hZ.at_ (i := 11) (v := .int .u64 0) rfl
                  have f11 := hZ.fr 11
                  go_wp2_with fail
                  refine bodyPost_ret (v := .tuple #[.agg (readP s).cells, .int .i64 0]) (by simp [results, Tryd.results11, go_sem, PtrD.cells, readP, z0, z1, z2, z3, z4, z5, z6, z7, z8, z9, z10, z11]) rfl ⟨by rw [he.out.1, he.out.2], ?_⟩
                  repeat (first | (with_reducible exact hbw) | (with_reducible refine below_set ?_ _ _ _ (Nat.le_refl _)))
end Go.Proofs.YtnagcmfecggllaaDoor
