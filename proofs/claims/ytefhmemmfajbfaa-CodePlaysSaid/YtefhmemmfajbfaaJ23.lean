/-
  The document's answer for layer 7: Encode.
-/
import Derived.Test.YtefhmemmfajbfaaJ22
namespace Go.Proofs.Ytefhmemmfajbfaa
set_option linter.unusedVariables false
set_option linter.unusedSimpArgs false
open Go.RowKit

theorem dataCnt_run {L : List Col} {i : Nat} (hi : i < L.length) (hp : (L.getD i (0, 0, false, 0)).2.2.1 = true) : ∀ k, (∀ j, j < k → i + 1 + j < L.length ∧ (L.getD (i + 1 + j) (0, 0, false, 0)).2.2.1 = false) → dataCnt L (i + 1 + k) = dataCnt L i + k
  | 0, _ => by rw [Nat.add_zero, dataCnt_succ (colD_in hi), hp, Nat.add_zero]; rfl
  | k + 1, h => by
    obtain ⟨h1, h2⟩ := h k (by omega)
    rw [← Nat.add_assoc, dataCnt_succ (colD_in h1), h2, dataCnt_run hi hp k (fun j hj => h j (by omega))]
    simp
    omega
theorem dataCnt_mono (L : List Col) {i j : Nat} (h : i ≤ j) : dataCnt L i ≤ dataCnt L j := by
  unfold dataCnt
  obtain ⟨r, rfl⟩ := Nat.exists_eq_add_of_le h
  rw [List.take_add, List.filter_append, List.length_append]
  omega
section
variable {gs : List (Int × Int)} {secs pg pa : Int} {s : List UInt8}
/-- A parity is the data behind it, together. -/
theorem enc_run (h : cMay gs secs pg pa (secN s) = true) {i : Nat} (hi : i < (colsOf gs secs pg pa (secN s)).length) (hp : ((colsOf gs secs pg pa (secN s)).getD i (0, 0, false, 0)).2.2.1 = true) :
    ∃ m : Nat, 0 < m ∧ dataCnt (colsOf gs secs pg pa (secN s)) i + m ≤ secN s ∧ (encL gs secs pg pa s).getD i [] = makeS ((List.range m).map fun k => secAt s (dataCnt (colsOf gs secs pg pa (secN s)) i + k)) ∧
      (∀ k, k < m → i + 1 + k < (colsOf gs secs pg pa (secN s)).length ∧ ((colsOf gs secs pg pa (secN s)).getD (i + 1 + k) (0, 0, false, 0)).2.2.2 = ((colsOf gs secs pg pa (secN s)).getD i (0, 0, false, 0)).2.2.2 ∧ ((colsOf gs secs pg pa (secN s)).getD (i + 1 + k) (0, 0, false, 0)).2.2.1 = false) ∧
      (i + 1 + m < (colsOf gs secs pg pa (secN s)).length → ¬ (((colsOf gs secs pg pa (secN s)).getD (i + 1 + m) (0, 0, false, 0)).2.2.2 = ((colsOf gs secs pg pa (secN s)).getD i (0, 0, false, 0)).2.2.2 ∧ ((colsOf gs secs pg pa (secN s)).getD (i + 1 + m) (0, 0, false, 0)).2.2.1 = false)) := by
  have hk : (grAt gs pg).1 ≠ 0 := fun e => by
    have := (mirL_of h e).dat i hi
    rw [hp] at this
    cases this
  obtain ⟨m, h1, h2, h3, h4⟩ := run_of h hk hi hp
  have hP := parL_of h hk
  have hcnt : dataCnt (colsOf gs secs pg pa (secN s)) (colsOf gs secs pg pa (secN s)).length = secN s := by
    unfold dataCnt
    rw [List.take_length, hP.cnt, Int.toNat_natCast]
  have hrun : ∀ k, k ≤ m → dataCnt (colsOf gs secs pg pa (secN s)) (i + 1 + k) = dataCnt (colsOf gs secs pg pa (secN s)) i + k := fun k hk2 => dataCnt_run hi hp k fun j hj => ⟨(h3 j (by omega)).1, (h3 j (by omega)).2.2⟩
  have hle : dataCnt (colsOf gs secs pg pa (secN s)) i + m ≤ secN s := by
    have h5 := (h3 (m - 1) (by omega)).1
    have h6 := dataCnt_mono (colsOf gs secs pg pa (secN s)) (show i + 1 + m ≤ (colsOf gs secs pg pa (secN s)).length by omega)
    rw [hrun m (Nat.le_refl _), hcnt] at h6
    exact h6
  refine ⟨m, h1, hle, ?_, h3, h4⟩
  rw [encL_get (ofList_may h) hi, outE_par (colD_in hi) hp, h2, List.map_map]
  congr 1
  apply List.map_congr_left
  intro k hk2
  have hk2 := List.mem_range.1 hk2
  obtain ⟨a1, a2, a3⟩ := h3 k hk2
  show outD _ _ (i + 1 + k) = _
  rw [outD_data (colD_in a1) a3, secsL_len, hrun k (by omega), Nat.mod_eq_of_lt (by omega), List.getD_eq_getElem?_getD, secsL_at (by omega)]
  rfl
theorem enc_sec (h : cMay gs secs pg pa (secN s) = true) (hs : secOk s = true) {i : Nat} (hi : i < (colsOf gs secs pg pa (secN s)).length) (hd : ((colsOf gs secs pg pa (secN s)).getD i (0, 0, false, 0)).2.2.1 = false) :
    (encL gs secs pg pa s).getD i [] = secAt s (dataCnt (colsOf gs secs pg pa (secN s)) i % secN s) := by
  rw [enc_data h hi hd, List.getD_eq_getElem?_getD, secsL_at (Nat.mod_lt _ (secN_pos hs))]
  rfl
end
theorem take_get {T : List (List UInt8)} {i : Nat} (hi : i < T.length) : T.take (i + 1) = T.take i ++ [T.getD i []] := by
  rw [List.take_add_one, List.getElem?_eq_getElem hi, List.getD_eq_getElem?_getD, List.getElem?_eq_getElem hi]
  rfl
theorem sec_slice (s : List UInt8) (W : World) (j : Nat) (hj : j * 64 + 64 ≤ s.length) (a b : Int) (ha : a = j * 64) (hb : b = j * 64 + 64) : (Instr.slice 9 (str s) (some (.int .i64 a)) (some (.int .i64 b)) none).run Try.prog W = .ok (str (secAt s j)) W := by
  subst ha hb
  have := run_slice_string (P := Try.prog) W 9 (ByteArray.mk s.toArray) .i64 .i64 ((j : Int) * 64) ((j : Int) * 64 + 64) Try.underlying9 (by omega) (by omega) (by simp [ByteArray.size]; omega)
  rw [this]
  have e1 : ((j : Int) * 64).toNat = j * 64 := by omega
  have e2 : ((j : Int) * 64 + 64).toNat = j * 64 + 64 := by omega
  have e3 : (ByteArray.mk s.toArray).extract (j * 64) (j * 64 + 64) = ⟨(secAt s j).toArray⟩ := by
    apply ByteArray.ext
    have h6 : (j * 64 + 64) - j * 64 = 64 := by omega
    simp only [secAt, ByteArray.data_extract, List.extract_toArray, List.extract_eq_take_drop, h6]
  rw [e1, e2, e3]
set_option maxRecDepth 20000 in
set_option maxHeartbeats 2000000 in
theorem refEncode_any (A : Option Addr) (m cc : Nat) (gs : List (Int × Int)) (secs pg pa : Int) (s : List UInt8) {w : World} (hg : GeoAt w A m gs) (hp : cMay gs secs pg pa (secN s) = true) (hs : secOk s = true) :
    Calls Try.prog 20 #[.agg #[.slice A m cc, .int .i64 secs], .agg #[.int .i64 pg, .int .i64 pa], str s] w fun e w' => ∃ v, e = .returned v ∧
      SlAt w' v (encL gs secs pg pa s).length (strC (encL gs secs pg pa s)) ∧ Below w.heap.size w w' := by
  obtain ⟨i0, hi, hz0, hz1, hz2⟩ := info_parts Try.infoStr
  obtain ⟨w2, hw2⟩ : ∃ z, (w.alloc (.cells #[.slice A m cc, .int .i64 secs] 24)).alloc (.cells #[.int .i64 pg, .int .i64 pa] 26) = z := ⟨_, rfl⟩
  have D2 : Below w.heap.size w w2 := by rw [← hw2]; exact keep_alloc (keep_alloc (Below.refl _ _) _) _
  have HO := Lib.hid (refOf_any A m cc gs secs pg pa (secN s) w2 (hg.below D2 (Nat.le_refl _)) hp)
  have HD2 := Lib.hid D2
  have HW2 := Lib.hid hw2
  obtain ⟨hs1, hs2, hs3⟩ := secOk_parts hs
  have hsp := secN_pos hs
  have hlenT := (enc_encL (s := s) hp).len
  have h64 := (enc_encL (s := s) hp).all64
  have hO64 := ofList_le gs secs pg pa (secN s)
  rw [ofList_may hp] at hO64
  have hrun := fun i (hi : i < (colsOf gs secs pg pa (secN s)).length) h => enc_run (s := s) hp hi h
  have hsec := fun i (hi : i < (colsOf gs secs pg pa (secN s)).length) h => enc_sec (s := s) hp hs hi h
  have hsn : secN s ≤ 4 ∧ s.length = secN s * 64 := by unfold secN; omega
  obtain ⟨T, hT⟩ : ∃ T, encL gs secs pg pa s = T := ⟨_, rfl⟩
  obtain ⟨L, hL⟩ : ∃ L, colsOf gs secs pg pa (secN s) = L := ⟨_, rfl⟩
  obtain ⟨sn, hsnd⟩ : ∃ sn, secN s = sn := ⟨_, rfl⟩
  have hq : Int.tdiv (s.length : Int) 64 = (sn : Int) := by rw [← hsnd]; rfl
  rw [hT, hL] at hlenT hrun hsec h64
  rw [hL] at HO hO64
  rw [hsnd] at hsn hsp hrun hsec
  rw [hT]
  have HRUN := Lib.hid (And.intro hrun hsec)
  have HT := Lib.hid (And.intro hlenT h64)
  have HSN := Lib.hid hsn
  have hsn4 := hsn.1
  clear hg hp hs D2 hw2 hs1 hs2 hs3 hlenT h64 hrun hsec hsn hT hL
  rw [hsnd] at HO
  clear hsnd
  go_enter Try.func20, Try.ntmps20
  go_wp2_with fail
  rw [HW2.out]
  refine HO.out.mono ?_
  rintro e w3 ⟨cv, rfl, hown, hb3⟩
  have HB3 := Lib.hid (keep_below hb3 HD2.out)
  have HC := Lib.hid (slAt_own hown)
  obtain ⟨Ac, c3, rfl⟩ := HC.out.form
  clear hown hb3
  go_wp2_with fail
  go_loopw [8, 9, 10] (fun v nv t wr => ∃ i : Nat, i ≤ L.length ∧ t = .int .i64 i ∧ nv = .int .i64 (dataCnt L i : Nat) ∧ wr.ownsRow w3.heap.size 9 1 v i (strC (T.take i)) ∧ Below w3.heap.size w3 wr) (fun _ _ t _ => L.length - (RowKit.intOf t).toNat)
  case atStart => exact ⟨0, Nat.zero_le _, rfl, rfl, World.ownsRow_nil _ _ _ _, Below.refl _ _⟩
  case round =>
    obtain ⟨i, hi2, rfl, rfl, hown, hb⟩ := hrel
    have HB := Lib.hid hb
    have HOWN := Lib.hid hown
    obtain ⟨n, hn⟩ : ∃ n, dataCnt L i = n := ⟨_, rfl⟩
    have hnl := dataCnt_le L i
    rw [hn] at hnl
    rw [hn]
    by_cases hlt : i < L.length
    · have hx := colD_in hlt
      have hst := dataCnt_succ hx
      rw [hn] at hst
      obtain ⟨x, hxd⟩ : ∃ x, L.getD i (0, 0, false, 0) = x := ⟨_, rfl⟩
      rw [hxd] at hx hst
      obtain ⟨bc, oc, rfl, hbc, hcc⟩ := HC.out.cells (by omega)
      have q2 := keepc (hcc _ _ (colsCells_at hx).2.2.1) hb
      have q3 := keepc (hcc _ _ (colsCells_at hx).2.2.2) hb
      rw [← Nat.add_assoc] at q2 q3
      have hd1 : decide (i < L.length) = true := decide_eq_true hlt
      have htk := take_get (T := T) (i := i) (by rw [HT.out.1]; exact hlt)
      have HIL := Lib.hid hlt
      cases hpr : x.2.2.1 with
      | false =>
        have hse := HRUN.out.2 i hlt (by rw [hxd]; exact hpr)
        rw [hn] at hse
        rw [hse] at htk
        rw [hpr] at q2 hst
        have hmod : n % sn < sn := Nat.mod_lt _ hsp
        obtain ⟨a, ha⟩ : ∃ a, n % sn = a := ⟨_, rfl⟩
        rw [ha] at hmod htk
        have hm1 : (n : Int) % (sn : Int) = (a : Int) := by rw [← ha]; rfl
        have hsl := fun W => sec_slice s W a (by have := HSN.out.2; have : a * 64 + 64 ≤ sn * 64 := by { have := Nat.mul_le_mul_right 64 hmod; rw [Nat.succ_mul] at this; exact this }; omega) (64 * (a : Int)) (64 * (a : Int) + 64) (by omega) (by omega)
        have HTK := Lib.hid htk
        have HST : Hid (dataCnt L (i + 1) = n + 1) := Lib.hid (by rw [hst]; rfl)
        obtain ⟨ta, hta⟩ : ∃ ta, secAt s a = ta := ⟨_, rfl⟩
        rw [hta] at hsl HTK
        clear hcc hbc hx hxd hb hown hn hst hse htk ha hta q3
        go_wp2_with (at_builtin; refine wpList_append_own _ rfl _ _ 27 rfl w3.heap.size 9 i0 _ 1 16 Try.underlying27 hi hz0 hz1 hz2 rfl (by decide) _ _ _ rfl (HOWN.out.alloc _) ⟨wr.heap.size, 0, none⟩ 1 1 [str ta] rfl rfl ?c1 ?c2 (by unfold maxLen; omega) (by omega) ?c5 ?_)
        try (case c1 => exact one_new' _ _ _)
        case c2 => first | rfl | (intro u hu; simp at hu; subst hu; rfl)
        case c5 => have := HB.out.size; simp; omega
        intro v' w5 hown' hgrow _
        have hown5 : w5.ownsRow w3.heap.size 9 1 v' (i + 1) (strC (T.take (i + 1))) := by
          rw [HTK.out, strC_snoc]
          exact hown'
        have hb5 : Below w3.heap.size w3 w5 := (HB.out.alloc HB.out.size _).grown hgrow (by have := HB.out.size; simp; omega) (fun k hk => (HOWN.out.lt k hk).1)
        have HO5 := Lib.hid hown5
        have HB5 := Lib.hid hb5
        clear hown' hgrow hown5 hb5
        go_wp2_with fail
        go_roundw
        case rel => exact ⟨i + 1, HIL.out, by go_num, by rw [HST.out]; go_num, HO5.out, HB5.out⟩
        case measure => have := HIL.out; simp [RowKit.intOf]; omega
      | true =>
        obtain ⟨mm, hm0, hmle, hTi, hin, hout⟩ := HRUN.out.1 i hlt (by rw [hxd]; exact hpr)
        rw [hn] at hmle hTi
        rw [hxd] at hin hout
        rw [hTi] at htk
        rw [hpr] at q2 hst
        obtain ⟨no, hno⟩ : ∃ no, x.2.2.2 = no := ⟨_, rfl⟩
        rw [hno] at q3 hin hout
        have HST : Hid (dataCnt L (i + 1) = n) := Lib.hid hst
        have HTK := Lib.hid htk
        have HIN := Lib.hid (And.intro hin hout)
        have HC3 := Lib.hid (And.intro hbc hcc)
        have HM := Lib.hid (And.intro hm0 hmle)
        have HQ3 := Lib.hid q3
        rename World => wq
        clear hcc hbc hx hxd hb hown hn hst htk hTi hin hout hno hm0 q3
        go_wp2_with fail
        go_loopw [11, 12] (fun v t wr => ∃ k : Nat, k ≤ mm ∧ t = .int .i64 k ∧ wr.ownsRow wq.heap.size 9 1 v k (strC ((List.range k).map fun k => secAt s (n + k))) ∧ Below wq.heap.size wq wr) (fun _ t _ => mm - (RowKit.intOf t).toNat)
        case atStart => exact ⟨0, Nat.zero_le _, rfl, World.ownsRow_nil _ _ _ _, Below.refl _ _⟩
        case round =>
          obtain ⟨k, hk, rfl, hownk, hbk⟩ := hrel
          have HBK := Lib.hid hbk
          have HOK := Lib.hid hownk
          have hO64' := hO64
          by_cases hkm : k < mm
          · obtain ⟨a1, a2, a3⟩ := HIN.out.1 k hkm
            have hy := colD_in a1
            obtain ⟨y, hyd⟩ : ∃ y, L.getD (i + 1 + k) (0, 0, false, 0) = y := ⟨_, rfl⟩
            rw [hyd] at hy a2 a3
            have r2 := keepc (keepc (HC3.out.2 _ _ (colsCells_at hy).2.2.1) HB.out) hbk
            have r3 := keepc (keepc (HC3.out.2 _ _ (colsCells_at hy).2.2.2) HB.out) hbk
            rw [← Nat.add_assoc] at r2 r3
            rw [a3] at r2
            rw [a2] at r3
            have r4 := keepc HQ3.out hbk
            obtain ⟨C, hCd, hCw, hCB, hCK, hCD⟩ := cls_below wr
            have f2 : ∀ W, C W → W.cell? ⟨bc, oc + (i + 1 + k) * 4 + 2, none⟩ = some (.bool false) := fun W h => keepc r2 (hCB W h)
            have f3 : ∀ W, C W → W.cell? ⟨bc, oc + (i + 1 + k) * 4 + 3, none⟩ = some (.int .i64 no) := fun W h => keepc r3 (hCB W h)
            have f4 : ∀ W, C W → W.cell? ⟨bc, oc + i * 4 + 3, none⟩ = some (.int .i64 no) := fun W h => keepc r4 (hCB W h)
            have hd2 : decide (i + 1 + k < L.length) = true := decide_eq_true a1
            have hd3 : decide ((i : Int) + 1 + k < L.length) = true := decide_eq_true (by omega)
            have HKM := Lib.hid hkm
            clear hownk hbk hy hyd r2 r3 r4 hCw hCK hCD a2 a3
            go_wp2_with fail
            refine wp_region_cls C (by kernel_rfl) (by kernel_rfl) hCd ?_
            repeat (first
              | go_big_quiet_skip
              | (go_big_quiet_want
                 go_big_quiet_op
                 first
                   | go_big_quiet_on
                   | (apply Exists.intro
                      refine ⟨fun W hW => ?_, ?_⟩
                      · first
                          | exact rfl
                          | exact ⟨rfl, rfl⟩
                          | (have e0 := f2 W hW; have e1 := f3 W hW; have e2 := f4 W hW; simp only [e0, e1, e2, Result.andThen_ok]; done)
                          | (have e0 := f2 W hW; have e1 := f3 W hW; have e2 := f4 W hW; simp only [e0, e1, e2, Result.andThen_ok]; first | exact ⟨trivial, rfl⟩ | exact rfl | exact ⟨rfl, rfl⟩)
                          | (skip)
                      go_big_quiet_on)))
            refine wpQuiet_nil ?_
            intro wz hwz
            have HBZ := Lib.hid (keep_below (hCB wz hwz) HBK.out)
            have HOZ : Hid (wz.ownsRow wq.heap.size 9 1 u11 k (strC ((List.range k).map fun k => secAt s (n + k)))) := Lib.hid (ownsRow_same HOK.out (fun b hb => (hCB wz hwz).block b (HOK.out.lt b hb).2))
            have hnk : (n + k) * 64 + 64 ≤ s.length := by
              have h1 := HM.out.2
              have h2 := HKM.out
              have h3 : (n + k + 1) * 64 ≤ sn * 64 := Nat.mul_le_mul_right 64 (by omega)
              have := HSN.out.2
              omega
            have hsl := fun W => sec_slice s W (n + k) hnk (64 * ((n : Int) + (k : Int))) (64 * ((n : Int) + (k : Int) + 1)) (by omega) (by omega)
            obtain ⟨ta, hta⟩ : ∃ ta, secAt s (n + k) = ta := ⟨_, rfl⟩
            rw [hta] at hsl
            have HTA : Hid ((List.range (k + 1)).map (fun k => secAt s (n + k)) = (List.range k).map (fun k => secAt s (n + k)) ++ [ta]) := Lib.hid (by rw [List.range_succ, List.map_append, ← hta]; rfl)
            obtain ⟨P, hP⟩ : ∃ P, (List.range k).map (fun k => secAt s (n + k)) = P := ⟨_, rfl⟩
            rw [hP] at HOZ HTA
            have hn64 : n ≤ 4 ∧ k ≤ 4 := by have := HM.out.2; have := HKM.out; omega
            obtain ⟨hn4, hk4⟩ := hn64
            clear f2 f3 f4 hCd hCB hwz hta hP hnk HOK
            go_wp2_with (at_builtin; refine wpList_append_own _ rfl _ _ 27 rfl wq.heap.size 9 i0 _ 1 16 Try.underlying27 hi hz0 hz1 hz2 rfl (by decide) _ _ _ rfl (HOZ.out.alloc _) ⟨wz.heap.size, 0, none⟩ 1 1 [str ta] rfl rfl ?d1 ?d2 (by unfold maxLen; omega) (by omega) ?d5 ?_)
            try (case d1 => exact one_new' _ _ _)
            case d2 => first | rfl | (intro u hu; simp at hu; subst hu; rfl)
            case d5 => have := HBZ.out.size; simp; omega
            intro v' w8 hown' hgrow _
            have hown8 : w8.ownsRow wq.heap.size 9 1 v' (k + 1) (strC ((List.range (k + 1)).map fun k => secAt s (n + k))) := by
              rw [HTA.out, strC_snoc]
              exact hown'
            have hb8 : Below wq.heap.size wq w8 := (HBZ.out.alloc HBZ.out.size _).grown hgrow (by have := HBZ.out.size; simp; omega) (fun k hk => (HOZ.out.lt k hk).1)
            have HO8 := Lib.hid hown8
            have HB8 := Lib.hid hb8
            clear hown' hgrow hown8 hb8
            go_wp2_with fail
            go_roundw
            case rel => exact ⟨k + 1, HKM.out, by go_num, HO8.out, HB8.out⟩
            case measure => have := HKM.out; simp [RowKit.intOf]; omega
          · obtain rfl : k = mm := by omega
            have hk4 : k ≤ 4 := by have := HM.out.2; omega
            obtain ⟨PL, hPL⟩ : ∃ PL, (List.range k).map (fun k => secAt s (n + k)) = PL := ⟨_, rfl⟩
            have hPLl : PL.length = k := by rw [← hPL]; simp
            have hPL64 : ∀ t ∈ PL, t.length = 64 := fun t ht => by
              rw [← hPL] at ht
              obtain ⟨j, hj, rfl⟩ := List.mem_map.1 ht
              have hj := List.mem_range.1 hj
              have h1 := HM.out.2
              have h3 : (n + j + 1) * 64 ≤ sn * 64 := Nat.mul_le_mul_right 64 (by omega)
              have h4 := HSN.out.2
              unfold secAt
              rw [List.length_take, List.length_drop]
              omega
            rw [hPL] at hownk
            have HTK2 : Hid (T.take (i + 1) = T.take i ++ [makeS PL]) := Lib.hid (by rw [HTK.out, hPL])
            have HPP := Lib.hid (And.intro hPLl hPL64)
            have HOK := Lib.hid hownk
            have r4 := keepc HQ3.out hbk
            obtain ⟨C, hCd, hCw, hCB, hCK, hCD⟩ := cls_below wr
            have f4 : ∀ W, C W → W.cell? ⟨bc, oc + i * 4 + 3, none⟩ = some (.int .i64 no) := fun W h => keepc r4 (hCB W h)
            by_cases hlast : i + 1 + k < L.length
            · have hy := colD_in hlast
              have hno := HIN.out.2 hlast
              obtain ⟨y, hyd⟩ : ∃ y, L.getD (i + 1 + k) (0, 0, false, 0) = y := ⟨_, rfl⟩
              rw [hyd] at hy hno
              have r2 := keepc (keepc (HC3.out.2 _ _ (colsCells_at hy).2.2.1) HB.out) hbk
              have r3 := keepc (keepc (HC3.out.2 _ _ (colsCells_at hy).2.2.2) HB.out) hbk
              rw [← Nat.add_assoc] at r2 r3
              have f2 : ∀ W, C W → W.cell? ⟨bc, oc + (i + 1 + k) * 4 + 2, none⟩ = some (.bool y.2.2.1) := fun W h => keepc r2 (hCB W h)
              have f3 : ∀ W, C W → W.cell? ⟨bc, oc + (i + 1 + k) * 4 + 3, none⟩ = some (.int .i64 y.2.2.2) := fun W h => keepc r3 (hCB W h)
              have hd2 : decide (i + 1 + k < L.length) = true := decide_eq_true hlast
              have hd3 : decide ((i : Int) + 1 + k < L.length) = true := decide_eq_true (by omega)
              clear hy hyd r2 r3 r4 hCw hCK hCD hownk hbk hPL hPLl hPL64
              cases hbe : (y.2.2.2 == no) with
              | false =>
                clear hno
                go_wp2_with fail
                refine wp_region_cls C (by kernel_rfl) (by kernel_rfl) hCd ?_
                repeat (first
                  | go_big_quiet_skip
                  | (go_big_quiet_want
                     go_big_quiet_op
                     first
                       | go_big_quiet_on
                       | (apply Exists.intro
                          refine ⟨fun W hW => ?_, ?_⟩
                          · first
                              | exact rfl
                              | exact ⟨rfl, rfl⟩
                              | (have e0 := f2 W hW; have e1 := f3 W hW; have e2 := f4 W hW; simp only [e0, e1, e2, Result.andThen_ok]; done)
                              | (have e0 := f2 W hW; have e1 := f3 W hW; have e2 := f4 W hW; simp only [e0, e1, e2, Result.andThen_ok]; first | exact ⟨trivial, rfl⟩ | exact rfl | exact ⟨rfl, rfl⟩)
                              | (skip)
                          go_big_quiet_on)))
                refine wpQuiet_nil ?_
                intro wz hwz
                have HBZ := Lib.hid (keep_below (hCB wz hwz) HBK.out)
                have HOZ := Lib.hid (ownsRow_same HOK.out (fun b hb => (hCB wz hwz).block b (HOK.out.lt b hb).2))
                clear f2 f3 f4 hCd hCB hwz
                have HXO := Lib.hid (refXor_any (w := wz) (l := PL) (n := 64) (by rw [HPP.out.1]; exact slAt_own HOZ.out) (fun e => by have h1 := HPP.out.1; have h2 := HM.out.1; rw [e] at h1; simp at h1; omega) HPP.out.2 (by decide) (by decide) (by rw [HPP.out.1]; omega))
                obtain ⟨Ap, cp, rfl⟩ := (slAt_own HOZ.out).form
                go_wp2_with fail
                refine HXO.out.mono ?_
                rintro e wy ⟨rfl, hby⟩
                have HBY := Lib.hid (HB.out.trans ((keep_below hby HBZ.out).mono HB.out.size))
                have HOY : Hid (wy.ownsRow w3.heap.size 9 1 u8 i (strC (T.take i))) := Lib.hid (ownsRow_same HOWN.out (fun b hb => (keep_below hby HBZ.out).block b (HOWN.out.lt b hb).2))
                obtain ⟨ta, hta⟩ : ∃ ta, makeS PL = ta := ⟨_, rfl⟩
                rw [hta] at HTK2
                rw [hta]
                clear hby hta
                go_wp2_with (at_builtin; refine wpList_append_own _ rfl _ _ 27 rfl w3.heap.size 9 i0 _ 1 16 Try.underlying27 hi hz0 hz1 hz2 rfl (by decide) _ _ _ rfl (HOY.out.alloc _) ⟨wy.heap.size, 0, none⟩ 1 1 [str ta] rfl rfl ?e1 ?e2 (by unfold maxLen; omega) (by omega) ?e5 ?_)
                try (case e1 => exact one_new' _ _ _)
                case e2 => first | rfl | (intro u hu; simp at hu; subst hu; rfl)
                case e5 => have := HBY.out.size; simp; omega
                intro v' w9 hown' hgrow _
                have hown9 : w9.ownsRow w3.heap.size 9 1 v' (i + 1) (strC (T.take (i + 1))) := by
                  rw [HTK2.out, strC_snoc]
                  exact hown'
                have hb9 : Below w3.heap.size w3 w9 := (HBY.out.alloc HBY.out.size _).grown hgrow (by have := HBY.out.size; simp; omega) (fun k hk => (HOY.out.lt k hk).1)
                have HO9 := Lib.hid hown9
                have HB9 := Lib.hid hb9
                clear hown' hgrow hown9 hb9
                go_wp2_with fail
                go_roundw
                case rel => exact ⟨i + 1, HIL.out, by go_num, by rw [HST.out], HO9.out, HB9.out⟩
                case measure => have := HIL.out; simp [RowKit.intOf]; omega
              | true =>
                have hyp : y.2.2.1 = true := by
                  cases hp2 : y.2.2.1 with
                  | true => rfl
                  | false => exact absurd ⟨eq_of_beq hbe, hp2⟩ hno
                rw [hyp] at f2
                clear hno hyp
                go_wp2_with fail
                refine wp_region_cls C (by kernel_rfl) (by kernel_rfl) hCd ?_
                repeat (first
                  | go_big_quiet_skip
                  | (go_big_quiet_want
                     go_big_quiet_op
                     first
                       | go_big_quiet_on
                       | (apply Exists.intro
                          refine ⟨fun W hW => ?_, ?_⟩
                          · first
                              | exact rfl
                              | exact ⟨rfl, rfl⟩
                              | (have e0 := f2 W hW; have e1 := f3 W hW; have e2 := f4 W hW; simp only [e0, e1, e2, Result.andThen_ok]; done)
                              | (have e0 := f2 W hW; have e1 := f3 W hW; have e2 := f4 W hW; simp only [e0, e1, e2, Result.andThen_ok]; first | exact ⟨trivial, rfl⟩ | exact rfl | exact ⟨rfl, rfl⟩)
                              | (skip)
                          go_big_quiet_on)))
                refine wpQuiet_nil ?_
                intro wz hwz
                have HBZ := Lib.hid (keep_below (hCB wz hwz) HBK.out)
                have HOZ := Lib.hid (ownsRow_same HOK.out (fun b hb => (hCB wz hwz).block b (HOK.out.lt b hb).2))
                clear f2 f3 f4 hCd hCB hwz
                have HXO := Lib.hid (refXor_any (w := wz) (l := PL) (n := 64) (by rw [HPP.out.1]; exact slAt_own HOZ.out) (fun e => by have h1 := HPP.out.1; have h2 := HM.out.1; rw [e] at h1; simp at h1; omega) HPP.out.2 (by decide) (by decide) (by rw [HPP.out.1]; omega))
                obtain ⟨Ap, cp, rfl⟩ := (slAt_own HOZ.out).form
                go_wp2_with fail
                refine HXO.out.mono ?_
                rintro e wy ⟨rfl, hby⟩
                have HBY := Lib.hid (HB.out.trans ((keep_below hby HBZ.out).mono HB.out.size))
                have HOY : Hid (wy.ownsRow w3.heap.size 9 1 u8 i (strC (T.take i))) := Lib.hid (ownsRow_same HOWN.out (fun b hb => (keep_below hby HBZ.out).block b (HOWN.out.lt b hb).2))
                obtain ⟨ta, hta⟩ : ∃ ta, makeS PL = ta := ⟨_, rfl⟩
                rw [hta] at HTK2
                rw [hta]
                clear hby hta
                go_wp2_with (at_builtin; refine wpList_append_own _ rfl _ _ 27 rfl w3.heap.size 9 i0 _ 1 16 Try.underlying27 hi hz0 hz1 hz2 rfl (by decide) _ _ _ rfl (HOY.out.alloc _) ⟨wy.heap.size, 0, none⟩ 1 1 [str ta] rfl rfl ?e1 ?e2 (by unfold maxLen; omega) (by omega) ?e5 ?_)
                try (case e1 => exact one_new' _ _ _)
                case e2 => first | rfl | (intro u hu; simp at hu; subst hu; rfl)
                case e5 => have := HBY.out.size; simp; omega
                intro v' w9 hown' hgrow _
                have hown9 : w9.ownsRow w3.heap.size 9 1 v' (i + 1) (strC (T.take (i + 1))) := by
                  rw [HTK2.out, strC_snoc]
                  exact hown'
                have hb9 : Below w3.heap.size w3 w9 := (HBY.out.alloc HBY.out.size _).grown hgrow (by have := HBY.out.size; simp; omega) (fun k hk => (HOY.out.lt k hk).1)
                have HO9 := Lib.hid hown9
                have HB9 := Lib.hid hb9
                clear hown' hgrow hown9 hb9
                go_wp2_with fail
                go_roundw
                case rel => exact ⟨i + 1, HIL.out, by go_num, by rw [HST.out], HO9.out, HB9.out⟩
                case measure => have := HIL.out; simp [RowKit.intOf]; omega
            · have hd2 : decide (i + 1 + k < L.length) = false := decide_eq_false hlast
              have hd3 : decide ((i : Int) + 1 + k < L.length) = false := decide_eq_false (by omega)
              clear r4 hCw hCK hCD hownk hbk hPL hPLl hPL64 hlast
              go_wp2_with fail
              refine wp_region_cls C (by kernel_rfl) (by kernel_rfl) hCd ?_
              repeat (first
                | go_big_quiet_skip
                | (go_big_quiet_want
                   go_big_quiet_op
                   first
                     | go_big_quiet_on
                     | (apply Exists.intro
                        refine ⟨fun W hW => ?_, ?_⟩
                        · first
                            | exact rfl
                            | exact ⟨rfl, rfl⟩
                            | (have e0 := f4 W hW; simp only [e0, Result.andThen_ok]; done)
                            | (have e0 := f4 W hW; simp only [e0, Result.andThen_ok]; first | exact ⟨trivial, rfl⟩ | exact rfl | exact ⟨rfl, rfl⟩)
                            | (skip)
                        go_big_quiet_on)))
              refine wpQuiet_nil ?_
              intro wz hwz
              have HBZ := Lib.hid (keep_below (hCB wz hwz) HBK.out)
              have HOZ := Lib.hid (ownsRow_same HOK.out (fun b hb => (hCB wz hwz).block b (HOK.out.lt b hb).2))
              clear f4 hCd hCB hwz
              have HXO := Lib.hid (refXor_any (w := wz) (l := PL) (n := 64) (by rw [HPP.out.1]; exact slAt_own HOZ.out) (fun e => by have h1 := HPP.out.1; have h2 := HM.out.1; rw [e] at h1; simp at h1; omega) HPP.out.2 (by decide) (by decide) (by rw [HPP.out.1]; omega))
              obtain ⟨Ap, cp, rfl⟩ := (slAt_own HOZ.out).form
              go_wp2_with fail
              refine HXO.out.mono ?_
              rintro e wy ⟨rfl, hby⟩
              have HBY := Lib.hid (HB.out.trans ((keep_below hby HBZ.out).mono HB.out.size))
              have HOY : Hid (wy.ownsRow w3.heap.size 9 1 u8 i (strC (T.take i))) := Lib.hid (ownsRow_same HOWN.out (fun b hb => (keep_below hby HBZ.out).block b (HOWN.out.lt b hb).2))
              obtain ⟨ta, hta⟩ : ∃ ta, makeS PL = ta := ⟨_, rfl⟩
              rw [hta] at HTK2
              rw [hta]
              clear hby hta
              go_wp2_with (at_builtin; refine wpList_append_own _ rfl _ _ 27 rfl w3.heap.size 9 i0 _ 1 16 Try.underlying27 hi hz0 hz1 hz2 rfl (by decide) _ _ _ rfl (HOY.out.alloc _) ⟨wy.heap.size, 0, none⟩ 1 1 [str ta] rfl rfl ?e1 ?e2 (by unfold maxLen; omega) (by omega) ?e5 ?_)
              try (case e1 => exact one_new' _ _ _)
              case e2 => first | rfl | (intro u hu; simp at hu; subst hu; rfl)
              case e5 => have := HBY.out.size; simp; omega
              intro v' w9 hown' hgrow _
              have hown9 : w9.ownsRow w3.heap.size 9 1 v' (i + 1) (strC (T.take (i + 1))) := by
                rw [HTK2.out, strC_snoc]
                exact hown'
              have hb9 : Below w3.heap.size w3 w9 := (HBY.out.alloc HBY.out.size _).grown hgrow (by have := HBY.out.size; simp; omega) (fun k hk => (HOY.out.lt k hk).1)
              have HO9 := Lib.hid hown9
              have HB9 := Lib.hid hb9
              clear hown' hgrow hown9 hb9
              go_wp2_with fail
              go_roundw
              case rel => exact ⟨i + 1, HIL.out, by go_num, by rw [HST.out], HO9.out, HB9.out⟩
              case measure => have := HIL.out; simp [RowKit.intOf]; omega
    · obtain rfl : i = L.length := by omega
      have hd1 : decide (L.length < L.length) = false := decide_eq_false (by omega)
      have HBW := Lib.hid (keep_below hb HB3.out)
      have hTl : T.take L.length = T := List.take_of_length_le (by rw [HT.out.1]; exact Nat.le_refl _)
      rw [hTl] at hown
      have HS := Lib.hid (slAt_own hown)
      clear hb hown hn
      go_wp2_with fail
      go_ret
      exact ⟨_, rfl, by rw [HT.out.1]; exact HS.out, HBW.out⟩
end Go.Proofs.Ytefhmemmfajbfaa
