/-
  The document's answer for layer 10: Look.
  The document's answer for layer 10: Unlike.
  Devices and pointers that are none: Look, Whole.
-/
import Derived.Test.YtbhkbcpljakmjaaGreatJ32
import Derived.Test.YtbhkbcpljakmjaaGreatJ34
import Derived.Test.YtbhkbcpljakmjaaGreatJ25
import Derived.Test.YtbhkbcpljakmjaaGreatJ31
import Derived.Test.YtbhkbcpljakmjaaGreatJ10
namespace Go.Proofs.YtbhkbcpljakmjaaGreat
set_option linter.unusedVariables false
set_option linter.unusedSimpArgs false
open Go.RowKit
theorem tries_few {gs : List (Int × Int)} {secs pg pa size : Int} {got : List (List UInt8)} (hf : fitsB gs secs pg pa size got = true) : (triesL gs secs pg pa size got).length ≤ 64 := by
 have hres := ref_tries hf
 obtain ⟨hmay, _, _⟩ := fits_parts hf
 obtain ⟨hhas, _⟩ := cMay_true hmay
 obtain ⟨gk, gx, hpk, hgk, hl4, hs1, hs2, hgx, hga, ho1⟩ := gHas_true hhas
 have ho' := gOne_true ho1
 rw [← hres]
 refine Nat.le_trans (refTo_len _ _ _ _ _) ?_
 subst hpk
 rw [hga]
 omega
def RowsAt (w : World) (rv : Value) (rows : List (List (List UInt8))) : Prop := ∃ vs : List Value, vs.length = rows.length ∧ SlAt w rv rows.length vs ∧ ∀ (i : Nat) (v : Value) (r : List (List UInt8)), vs[i]? = some v → rows[i]? = some r → SlAt w v r.length (strC r)
section
variable {w w' : World} {rv : Value} {rows : List (List (List UInt8))}
theorem RowsAt.below (h : RowsAt w rv rows) (hb : Below w.heap.size w w') : RowsAt w' rv rows := by
 obtain ⟨vs, h1, h2, h3⟩ := h
 exact ⟨vs, h1, h2.below hb, fun i v r hv hr => (h3 i v r hv hr).below hb⟩
theorem RowsAt.form (h : RowsAt w rv rows) : ∃ A c, rv = .slice A rows.length c := by
 obtain ⟨vs, h1, h2, h3⟩ := h
 exact h2.form
theorem RowsAt.row {A : Option Addr} {c k : Nat} {r : List (List UInt8)} (h : RowsAt w (.slice A rows.length c) rows) (hk : rows[k]? = some r) : ∃ b o A' c', A = some ⟨b, o, none⟩ ∧ w.cell? ⟨b, o + k, none⟩ = some (.slice A' r.length c') ∧ SlAt w (.slice A' r.length c') r.length (strC r) := by
 obtain ⟨vs, h1, h2, h3⟩ := h
 have hlt : k < rows.length := (List.getElem?_eq_some_iff.1 hk).1
 obtain ⟨b, o, rfl, hb, hc⟩ := h2.cells (by omega)
 obtain ⟨v, hv⟩ : ∃ v, vs[k]? = some v := ⟨_, List.getElem?_eq_getElem (by omega)⟩
 have hs := h3 k v r hv hk
 obtain ⟨A', c', rfl⟩ := hs.form
 exact ⟨b, o, A', c', rfl, hc k _ hv, hs⟩
end
theorem hasE_take {l : List (List UInt8)} {k : Nat} {s : List UInt8} (h : l[k]? = some s) : hasE (l.take (k + 1)) = (hasE (l.take k) || s.isEmpty) := by
 rw [List.take_add_one, h]
 exact hasE_snoc _ _
set_option maxRecDepth 20000 in
set_option maxHeartbeats 2000000 in
theorem refLook_any (A : Option Addr) (m cc : Nat) (gs : List (Int × Int)) (secs : Int) (q : PtrD) {rv : Value} (R : PlX → List (List UInt8)) {w : World} (hg : GeoAt w A m gs) (hq : rightB gs secs q = true) (hf : ∀ pl ∈ plsL q, fitsB gs secs pl.1 pl.2 q.size (R pl) = true)
 (hraw : RowsAt w rv ((plsL q).map R)) {ct : List UInt8} {cpl : Nat} {cdv : Int} {cfx : Nat} {er : Int} (hlv : lookV gs secs q R = (⟨ct, cpl, cdv, cfx⟩, er)) :
 Calls Tryz.prog 21 #[.agg #[.slice A m cc, .int .i64 secs], .agg #[.int .i64 q.ag, .int .i64 q.aa, .int .i64 q.bg, .int .i64 q.ba, .bool q.two, .int .i64 q.size, .int .i64 q.level, .int .i64 q.birth, .int .u64 q.s0, .int .u64 q.s1, .int .u64 q.s2, .int .u64 q.s3], rv] w fun e w' => e = .returned (.tuple #[str ct, .int .i64 cpl, .int .i64 cdv, .int .i64 er]) ∧ Below w.heap.size w w' := by
 obtain ⟨L, hL⟩ : ∃ L, plsL q = L := ⟨_, rfl⟩
 have hl2 : L.length ≤ 2 := by rw [← hL]; exact plsL_len q
 have hpre : ∀ (k : Nat) (pl : PlX), L[k]? = some pl → [(q.ag, q.aa), (q.bg, q.ba)][k]? = some pl := by
  intro k pl h
  rw [← hL, plsL_right hq] at h
  cases ht : q.two with
  | true => rw [ht] at h; exact h
  | false =>
   rw [ht] at h
   cases k with
   | zero => exact h
   | succ k => cases h
 have hm := pls_may hq
 have hLK : lookFrom gs secs q R L 0 true = (⟨ct, cpl, cdv, cfx⟩, er) := by
  unfold lookV at hlv
  rwa [if_pos hq, hL] at hlv
 rw [hL] at hf hraw hm
 obtain ⟨w2, hw2⟩ : ∃ z, (w.alloc (.cells #[.slice A m cc, .int .i64 secs] 24)).alloc (.cells #[.int .i64 q.ag, .int .i64 q.aa, .int .i64 q.bg, .int .i64 q.ba, .bool q.two, .int .i64 q.size, .int .i64 q.level, .int .i64 q.birth, .int .u64 q.s0, .int .u64 q.s1, .int .u64 q.s2, .int .u64 q.s3] 31) = z := ⟨_, rfl⟩
 have B1 : Blk w2 w.heap.size 24 #[.slice A m cc, .int .i64 secs] := by rw [← hw2]; exact (Blk.new _ _ _).alloc _
 have B2 : Blk w2 (w.heap.size + 1) 31 #[.int .i64 q.ag, .int .i64 q.aa, .int .i64 q.bg, .int .i64 q.ba, .bool q.two, .int .i64 q.size, .int .i64 q.level, .int .i64 q.birth, .int .u64 q.s0, .int .u64 q.s1, .int .u64 q.s2, .int .u64 q.s3] := by rw [← hw2]; exact Blk.new2 _ _ _ _
 have D2 : Below w.heap.size w w2 := by rw [← hw2]; exact keep_alloc (keep_alloc (Below.refl _ _) _) _
 obtain ⟨w3, hw3⟩ : ∃ z, w2.alloc (.cells #[.int .i64 q.ag, .int .i64 q.aa, .int .i64 q.bg, .int .i64 q.ba] 26) = z := ⟨_, rfl⟩
 have P3 : Blk w3 w2.heap.size 26 #[.int .i64 q.ag, .int .i64 q.aa, .int .i64 q.bg, .int .i64 q.ba] := by rw [← hw3]; exact Blk.new _ _ _
 have hsz : w2.heap.size = w.heap.size + 1 + 1 := by rw [← hw2]; simp
 rw [hsz] at P3
 have D3 : Below w2.heap.size w2 w3 := by rw [← hw3]; exact keep_alloc (Below.refl _ _) _
 have HB := Lib.hid (And.intro (B1.below D3 B1.lt) (And.intro (B2.below D3 B2.lt) (And.intro P3 (keep_below D3 D2))))
 have HB2 := Lib.hid B2
 have hraw3 := hraw.below (keep_below D3 D2)
 obtain ⟨Ar, cr, rfl⟩ := hraw.form
 have HG := Lib.hid (hg.below (keep_below D3 D2) (Nat.le_refl _))
 have HRW := Lib.hid hraw3
 have HF := Lib.hid (And.intro hf (And.intro hm (And.intro hl2 hpre)))
 have HLK := Lib.hid hLK
 have HW2 := Lib.hid hw2
 have HW3 := Lib.hid hw3
 have hrl : (L.map R).length = L.length := List.length_map _
 rw [hrl] at hraw3 ⊢
 obtain ⟨rl, hrl2⟩ : ∃ rl, L.length = rl := ⟨_, rfl⟩
 rw [hrl2]
 have HRL := Lib.hid (And.intro hrl2 hrl)
 clear hsz hg hq hf hraw hlv hL hl2 hpre hm hLK B1 B2 D2 P3 D3 hraw3 hw2 hw3 hrl hrl2
 have hp := HB2.out
 rw [← HW2.out] at hp
 have p0 := (hp).at_ (i := 0) (v := .int .i64 q.ag) rfl
 have p1 := (hp).at_ (i := 1) (v := .int .i64 q.aa) rfl
 have p2 := (hp).at_ (i := 2) (v := .int .i64 q.bg) rfl
 have p3 := (hp).at_ (i := 3) (v := .int .i64 q.ba) rfl
 have p4 := (hp).at_ (i := 4) (v := .bool q.two) rfl
 have p5 := (hp).at_ (i := 5) (v := .int .i64 q.size) rfl
 have p6 := (hp).at_ (i := 6) (v := .int .i64 q.level) rfl
 have p7 := (hp).at_ (i := 7) (v := .int .i64 q.birth) rfl
 have p8 := (hp).at_ (i := 8) (v := .int .u64 q.s0) rfl
 have p9 := (hp).at_ (i := 9) (v := .int .u64 q.s1) rfl
 have p10 := (hp).at_ (i := 10) (v := .int .u64 q.s2) rfl
 have p11 := (hp).at_ (i := 11) (v := .int .u64 q.s3) rfl
 clear hp
 go_enter Tryz.func21, Tryz.ntmps21
 go_wp2_with fail
 clear p0 p1 p2 p3 p4 p5 p6 p7 p8 p9 p10 p11
 rw [HW2.out, HW3.out]
 go_loopw [11, 12, 13, 14, 15] (fun ms t _ _ _ wr => ∃ (k : Nat) (a : Bool), k ≤ rl ∧ ms = .bool (!a) ∧ t = .int .i64 k ∧ lookFrom gs secs q R (L.drop k) k a = (⟨ct, cpl, cdv, cfx⟩, er) ∧ Below w3.heap.size w3 wr) (fun _ t _ _ _ _ => rl - (RowKit.intOf t).toNat)
 case atStart => exact ⟨0, true, Nat.zero_le _, rfl, rfl, HLK.out, Below.refl _ _⟩
 case round =>
  obtain ⟨k, a, hk, rfl, rfl, hlk, hb⟩ := hrel
  have HBB := Lib.hid hb
  by_cases hlt : k < rl
  · have hkL : k < L.length := by have := HRL.out.1; omega
    obtain ⟨pl, hpl⟩ : ∃ pl, L[k]? = some pl := ⟨_, List.getElem?_eq_getElem hkL⟩
    rw [look_step hpl] at hlk
    have hfp := HF.out.1 pl (List.mem_of_getElem? hpl)
    have hmp := HF.out.2.1 pl (List.mem_of_getElem? hpl)
    have hpp := HF.out.2.2.2 k pl hpl
    have hrow : (L.map R)[k]? = some (R pl) := by rw [List.getElem?_map, hpl]; rfl
    obtain ⟨rb, ro, A', c', rfl, hrc, hrs⟩ := (HRW.out.below hb).row hrow
    have hl01 : w3.cell? ⟨w.heap.size + 1 + 1, k * 2, none⟩ = some (.int .i64 pl.1) ∧ w3.cell? ⟨w.heap.size + 1 + 1, k * 2 + 1, none⟩ = some (.int .i64 pl.2) := by
     have h2 := HF.out.2.2.1
     rcases (show k = 0 ∨ k = 1 by omega) with rfl | rfl
     · cases hpp; exact ⟨HB.out.2.2.1.at_ rfl, HB.out.2.2.1.at_ rfl⟩
     · cases hpp; exact ⟨HB.out.2.2.1.at_ rfl, HB.out.2.2.1.at_ rfl⟩
    have l0 := keepc hl01.1 hb
    have l1 := keepc hl01.2 hb
    obtain ⟨G, hG⟩ : ∃ G, R pl = G := ⟨_, rfl⟩
    rw [hG] at hfp hrc hrs hlk
    have hG64 : G.length ≤ 64 ∧ ∀ s ∈ G, s.length ≤ 64 := by
     obtain ⟨h1, h2, h3⟩ := fits_parts hfp
     have := ofList_le gs secs pl.1 pl.2 q.size
     rw [ofList_may h1] at this
     exact ⟨by omega, h3⟩
    have hT64 := tries_few hfp
    have hTl := tries_64 hfp
    have hbd := cMay_bd hmp
    obtain ⟨T, hT⟩ : ∃ T, triesL gs secs pl.1 pl.2 q.size G = T := ⟨_, rfl⟩
    have htry : tryAt gs secs q G pl = T.find? fun x => fsum x.2 == q.sum := by unfold tryAt; rw [hT]
    have HTR : Hid (∀ (W : World), Below wr.heap.size wr W → Calls Tryz.prog 46 #[.agg #[.slice A m cc, .int .i64 secs], .agg #[.int .i64 pl.1, .int .i64 pl.2], .int .i64 q.size, .slice A' G.length c'] W fun e w' => ∃ v, e = .returned v ∧ SlAt w' v T.length (trC T) ∧ Below W.heap.size W w') := Lib.hid fun W hW => by
     have := refTries_any A m cc gs secs pl.1 pl.2 q.size (HG.out.below (keep_below hW hb) (Nat.le_refl _)) (hrs.below hW) hfp
     rw [hT] at this
     exact this
    rw [hT] at hT64 hTl
    rw [htry] at hlk
    have hT1000 : ∀ x ∈ T, x.2.length ≤ 100000 := fun x hx => by rw [hTl x hx]; omega
    have HT := Lib.hid (And.intro hT64 hT1000)
    have HLK2 := Lib.hid hlk
    have HX := Lib.hid (And.intro hrc (And.intro hrs hG64))
    have HLT := Lib.hid hlt
    have hd1 : decide (k < rl) = true := decide_eq_true hlt
    have hk2 : k < 2 := by have := HF.out.2.2.1; omega
    obtain ⟨C, hCd, hCw, hCB, hCK, hCD⟩ := cls_below wr
    have g0 := keepc (HB.out.1.at_ (i := 0) (v := .slice A m cc) rfl) hb
    have g1 := keepc (HB.out.1.at_ (i := 1) (v := .int .i64 secs) rfl) hb
    have p5 := keepc (HB.out.2.1.at_ (i := 5) (v := .int .i64 q.size) rfl) hb
    have f0 : ∀ W, C W → W.cell? ⟨w.heap.size, 0, none⟩ = some (.slice A m cc) := fun W h => keepc g0 (hCB W h)
    have f1 : ∀ W, C W → W.cell? ⟨w.heap.size, 1, none⟩ = some (.int .i64 secs) := fun W h => keepc g1 (hCB W h)
    have f2 : ∀ W, C W → W.cell? ⟨w.heap.size + 1 + 1, k * 2, none⟩ = some (.int .i64 pl.1) := fun W h => keepc l0 (hCB W h)
    have f3 : ∀ W, C W → W.cell? ⟨w.heap.size + 1 + 1, k * 2 + 1, none⟩ = some (.int .i64 pl.2) := fun W h => keepc l1 (hCB W h)
    have f4 : ∀ W, C W → W.cell? ⟨w.heap.size + 1, 5, none⟩ = some (.int .i64 q.size) := fun W h => keepc p5 (hCB W h)
    have f5 : ∀ W, C W → W.cell? ⟨rb, ro + k, none⟩ = some (.slice A' G.length c') := fun W h => keepc hrc (hCB W h)
    have HC := Lib.hid (And.intro hCB (And.intro hCK hCd))
    clear hkL hpl hfp hmp hpp hrow hrc hrs hl01 l0 l1 hG hG64 hT64 hTl hbd hT htry hlk hT1000 hb hk g0 g1 p5 hCw hCB hCK hCD
    go_wp2_with fail
    refine wp_region_effA C [11] (by kernel_rfl) (by kernel_rfl) (by kernel_rfl) hCd ?_
    refine wpLexE_take 11 (by kernel_rfl) (by kernel_rfl) ?_
    simp only [List.take_succ_cons, List.take_zero, List.drop_succ_cons, List.drop_zero]
    repeat (first | go_big_quiet_skip | (go_big_quiet_want; go_big_quiet_op; first | go_big_quiet_on | (apply Exists.intro; refine ⟨fun W hW => ?_, ?_⟩; (focus ((first | exact rfl | exact ⟨rfl, rfl⟩ | (simp only [f0 W hW, f1 W hW, f2 W hW, f3 W hW, f4 W hW, f5 W hW, Result.andThen_ok]; first | done | exact ⟨trivial, rfl⟩ | exact rfl | exact ⟨rfl, rfl⟩) | (skip)); done)); go_big_quiet_on)))
    refine wpQuiet_nil ?_
    show wpLexE _ _ _ _ _ _ _ _ _
    refine wpLexE_eff (by kernel_rfl) rfl ?_
    clear f1 f2 f3 f4 f5
    go_wp2_with fail
    refine (HTR.out _ (HC.out.1 _ hCd)).mono ?_
    rintro e w6 ⟨v, rfl, hsl, hb6⟩
    have hC6 := HC.out.2.1 _ _ hCd hb6
    have HSL := Lib.hid hsl
    obtain ⟨At, ct', rfl⟩ := hsl.form
    have hb6w := HC.out.1 _ hC6
    have HB6 := Lib.hid (keep_below hb6w HBB.out)
    have HX6 := Lib.hid (And.intro (keepc HX.out.1 hb6w) (And.intro (HX.out.2.1.below hb6w) HX.out.2.2))
    clear hsl hb6 hb6w
    go_wp2_with fail
    refine ⟨rfl, hC6, ?_⟩
    refine wpLexE_take 1 (by kernel_rfl) (by kernel_rfl) ?_
    simp only [List.take_succ_cons, List.take_zero, List.drop_succ_cons, List.drop_zero]
    repeat (first | go_big_quiet_skip | (go_big_quiet_want; go_big_quiet_op; first | go_big_quiet_on | (apply Exists.intro; refine ⟨fun W hW => ?_, ?_⟩; (focus ((first | exact rfl | exact ⟨rfl, rfl⟩ | (simp only [f0 W hW, Result.andThen_ok]; first | done | exact ⟨trivial, rfl⟩ | exact rfl | exact ⟨rfl, rfl⟩) | (skip)); done)); go_big_quiet_on)))
    refine wpQuiet_nil ?_
    unfold wpLexE
    clear f0 hC6 hCd
    go_wp2_with fail
    go_loopw [14] (fun t wr => ∃ j : Nat, j ≤ T.length ∧ t = .int .i64 j ∧ (∀ x ∈ T.take j, (fsum x.2 == q.sum) = false) ∧ Below w6.heap.size w6 wr) (fun t _ => T.length - (RowKit.intOf t).toNat)
    case atStart => exact ⟨0, Nat.zero_le _, rfl, fun x hx => by simp at hx, Below.refl _ _⟩
    case round =>
     obtain ⟨j, hj, rfl, hno, hbj⟩ := hrel
     have hTL := HT.out.1
     by_cases hjt : j < T.length
     · obtain ⟨x, hx⟩ : ∃ x, T[j]? = some x := ⟨_, List.getElem?_eq_getElem hjt⟩
       have hxl := HT.out.2 x (List.mem_of_getElem? hx)
       obtain ⟨hc0, hc1⟩ := trC_at hx
       obtain ⟨tb, ot, rfl, htb, htc⟩ := HSL.out.cells (by omega)
       have t0 := keepc (htc _ _ hc0) hbj
       have t1 : wr.cell? ⟨tb, ot + j * 2 + 1, none⟩ = some (str x.2) := keepc (htc _ _ hc1) hbj
       have hb3j := keep_below hbj HB6.out
       have s8 := keepc (HB.out.2.1.at_ (i := 8) (v := .int .u64 q.s0) rfl) hb3j
       have s9 := keepc (HB.out.2.1.at_ (i := 9) (v := .int .u64 q.s1) rfl) hb3j
       have s10 := keepc (HB.out.2.1.at_ (i := 10) (v := .int .u64 q.s2) rfl) hb3j
       have s11 := keepc (HB.out.2.1.at_ (i := 11) (v := .int .u64 q.s3) rfl) hb3j
       have hts : T.take (j + 1) = T.take j ++ [x] := by rw [List.take_add_one, hx]; rfl
       obtain ⟨F, hF⟩ : ∃ F, fsum x.2 = F := ⟨_, rfl⟩
       have HFS := Lib.hid (fun W => refSum_any x.2 hxl W)
       simp only [hF] at HFS
       have HEQ : ∀ X, (binOp .eql 29 (.agg (fcells F)) (.agg #[.int .u64 q.s0, .int .u64 q.s1, .int .u64 q.s2, .int .u64 q.s3])).run Tryz.prog X = .ok (.bool (F == q.sum)) X := fun X => eql_sum F q.sum X
       have hfd : (F == q.sum) = true → T.find? (fun x => fsum x.2 == q.sum) = some x := fun h => find_some_of hno (by show (fsum x.2 == q.sum) = true; rw [hF]; exact h) (by rw [← hts]; exact List.take_prefix _ _)
       have hnn : (F == q.sum) = false → ∀ y ∈ T.take (j + 1), (fsum y.2 == q.sum) = false := fun h y hy => by
        rw [hts] at hy
        rcases List.mem_append.1 hy with hy | hy
        · exact hno y hy
        · rw [List.mem_singleton.1 hy, hF]; exact h
       have HFD := Lib.hid (And.intro hfd hnn)
       have HJT := Lib.hid hjt
       have HB3J := Lib.hid (And.intro hbj hb3j)
       have hd2 : decide (j < T.length) = true := decide_eq_true hjt
       obtain ⟨C, hCd, hCw, hCB, hCK, hCD⟩ := cls_below wr
       have f1 : ∀ W, C W → W.cell? ⟨tb, ot + j * 2 + 1, none⟩ = some (str x.2) := fun W h => keepc t1 (hCB W h)
       have f8 : ∀ W, C W → W.cell? ⟨w.heap.size + 1, 8, none⟩ = some (.int .u64 q.s0) := fun W h => keepc s8 (hCB W h)
       have f9 : ∀ W, C W → W.cell? ⟨w.heap.size + 1, 9, none⟩ = some (.int .u64 q.s1) := fun W h => keepc s9 (hCB W h)
       have f10 : ∀ W, C W → W.cell? ⟨w.heap.size + 1, 10, none⟩ = some (.int .u64 q.s2) := fun W h => keepc s10 (hCB W h)
       have f11 : ∀ W, C W → W.cell? ⟨w.heap.size + 1, 11, none⟩ = some (.int .u64 q.s3) := fun W h => keepc s11 (hCB W h)
       have HC := Lib.hid (And.intro hCB (And.intro hCK (And.intro t0 t1)))
       clear hF hx hc0 hc1 htb htc t0 t1 s8 s9 s10 s11 hts hfd hnn hno hj hb3j hbj hCw hCB hCK hCD
       go_wp2_with fail
       refine wp_region_effA C [5] (by kernel_rfl) (by kernel_rfl) (by kernel_rfl) hCd ?_
       refine wpLexE_take 5 (by kernel_rfl) (by kernel_rfl) ?_
       simp only [List.take_succ_cons, List.take_zero, List.drop_succ_cons, List.drop_zero]
       repeat (first | go_big_quiet_skip | (go_big_quiet_want; go_big_quiet_op; first | go_big_quiet_on | (apply Exists.intro; refine ⟨fun W hW => ?_, ?_⟩; (focus ((first | exact rfl | exact ⟨rfl, rfl⟩ | (simp only [f1 W hW, Result.andThen_ok]; first | done | exact ⟨trivial, rfl⟩ | exact rfl | exact ⟨rfl, rfl⟩) | (skip)); done)); go_big_quiet_on)))
       refine wpQuiet_nil ?_
       show wpLexE _ _ _ _ _ _ _ _ _
       refine wpLexE_eff (by kernel_rfl) rfl ?_
       go_wp2_with fail
       refine (HFS.out _).mono ?_
       rintro e w7 ⟨rfl, hb7⟩
       have hC7 := HC.out.2.1 _ _ hCd hb7
       have HC7 := Lib.hid (HC.out.1 _ hC7)
       clear hb7
       go_wp2_with fail
       refine ⟨rfl, hC7, ?_⟩
       refine wpLexE_take 3 (by kernel_rfl) (by kernel_rfl) ?_
       simp only [List.take_succ_cons, List.take_zero, List.drop_succ_cons, List.drop_zero]
       repeat (first | go_big_quiet_skip | (go_big_quiet_want; go_big_quiet_op; first | go_big_quiet_on | (apply Exists.intro; refine ⟨fun W hW => ?_, ?_⟩; (focus ((first | exact rfl | exact ⟨rfl, rfl⟩ | (simp only [f8 W hW, f9 W hW, f10 W hW, f11 W hW, Result.andThen_ok]; first | done | exact ⟨trivial, rfl⟩ | exact rfl | exact ⟨rfl, rfl⟩) | (skip)); done)); go_big_quiet_on)))
       refine wpQuiet_nil ?_
       unfold wpLexE
       clear f1 f8 f9 f10 f11 hC7 hCd
       cases hqq : (F == q.sum) with
       | false =>
        have HNN := Lib.hid (HFD.out.2 hqq)
        clear HEQ hqq
        go_wp2_with fail
        go_roundw
        case rel => exact ⟨j + 1, HJT.out, by go_num, HNN.out, keep_below HC7.out HB3J.out.1⟩
        case measure => have := HJT.out; simp [RowKit.intOf]; omega
       | true =>
        have hlk := HLK2.out
        rw [HFD.out.1 hqq] at hlk
        simp only [Prod.mk.injEq, CameD.mk.injEq] at hlk
        obtain ⟨⟨rfl, rfl, rfl, rfl⟩, rfl⟩ := hlk
        have t0 := keepc HC.out.2.2.1 HC7.out
        have t1 := keepc HC.out.2.2.2 HC7.out
        obtain ⟨C, hCd, hCw, hCB, hCK, hCD⟩ := cls_below w7
        have f0 : ∀ W, C W → W.cell? ⟨tb, ot + j * 2, none⟩ = some (.int .i64 x.1) := fun W h => keepc t0 (hCB W h)
        have f1 : ∀ W, C W → W.cell? ⟨tb, ot + j * 2 + 1, none⟩ = some (str x.2) := fun W h => keepc t1 (hCB W h)
        have HC2 := Lib.hid hCB
        clear HEQ hqq t0 t1 hCw hCB hCK hCD
        go_wp2_with fail
        refine wp_region_cls C (by kernel_rfl) (by kernel_rfl) hCd ?_
        repeat (first | go_big_quiet_skip | (go_big_quiet_want; go_big_quiet_op; first | go_big_quiet_on | (apply Exists.intro; refine ⟨fun W hW => ?_, ?_⟩; (focus ((first | exact rfl | exact ⟨rfl, rfl⟩ | (simp only [f0 W hW, f1 W hW, Result.andThen_ok]; first | done | exact ⟨trivial, rfl⟩ | exact rfl | exact ⟨rfl, rfl⟩) | (skip)); done)); go_big_quiet_on)))
        refine wpQuiet_nil ?_
        intro wz hwz
        have HBZ := Lib.hid (keep_below (HC2.out wz hwz) (keep_below HC7.out HB3J.out.2))
        clear f0 f1 hCd hwz
        go_wp2_with fail
        refine bodyPost_ret (v := .tuple #[str x.2, .int .i64 k, .int .i64 x.1, .int .i64 0]) (by simp [results, Tryz.f21, go_sem]) rfl ⟨rfl, keep_below HBZ.out HB.out.2.2.2⟩
     · obtain rfl : j = T.length := by omega
       rw [List.take_length] at hno
       have hlk := HLK2.out
       rw [find_none_of hno] at hlk
       have HLK3 := Lib.hid hlk
       have HBJ := Lib.hid hbj
       have hd2 : decide (T.length < T.length) = false := decide_eq_false (by omega)
       clear hno hlk hj hjt hbj
       go_wp2_with fail
       go_loopw [11, 15] (fun ms t wr => ∃ j : Nat, j ≤ G.length ∧ t = .int .i64 j ∧ ms = .bool (!a || hasE (G.take j)) ∧ Below w6.heap.size w6 wr) (fun _ t _ => G.length - (RowKit.intOf t).toNat)
       case atStart => exact ⟨0, Nat.zero_le _, rfl, by simp [hasE], HBJ.out⟩
       case round =>
        obtain ⟨j, hj, rfl, rfl, hbj⟩ := hrel
        have hGL := HX6.out.2.2.1
        have r0 := keepc HX6.out.1 hbj
        by_cases hjt : j < G.length
        · obtain ⟨s, hs⟩ : ∃ s, G[j]? = some s := ⟨_, List.getElem?_eq_getElem hjt⟩
          obtain ⟨gb, go, rfl, hgb, hgc⟩ := HX6.out.2.1.cells (by omega)
          have r1 := keepc (hgc _ _ (strC_at hs)) hbj
          have hst := hasE_take hs
          have hd3 : decide (j < G.length) = true := decide_eq_true hjt
          have HJT := Lib.hid hjt
          have HBJ2 := Lib.hid hbj
          cases hms : (!a || hasE (G.take j)) with
          | true =>
           have HMS : Hid ((!a || hasE (G.take (j + 1))) = true) := Lib.hid (by rw [hst, ← Bool.or_assoc, hms]; rfl)
           clear hst hs hgb hgc hj hbj hms
           go_wp2_with fail
           go_roundw
           case rel => exact ⟨j + 1, HJT.out, by go_num, by rw [HMS.out], HBJ2.out⟩
           case measure => have := HJT.out; simp [RowKit.intOf]; omega
          | false =>
           have HMS : Hid ((!a || hasE (G.take (j + 1))) = s.isEmpty) := Lib.hid (by rw [hst, ← Bool.or_assoc, hms]; rfl)
           clear hst hgb hgc hj hbj hms
           by_cases hs0 : s = []
           · subst hs0
             clear hs
             go_wp2_with fail
             go_roundw
             case rel => exact ⟨j + 1, HJT.out, by go_num, by rw [HMS.out]; rfl, HBJ2.out⟩
             case measure => have := HJT.out; simp [RowKit.intOf]; omega
           · have hse : s.isEmpty = false := by cases s with | nil => exact absurd rfl hs0 | cons a l => rfl
             clear hs hs0
             go_wp2_with fail
             go_roundw
             case rel => exact ⟨j + 1, HJT.out, by go_num, by rw [HMS.out, hse], HBJ2.out⟩
             case measure => have := HJT.out; simp [RowKit.intOf]; omega
        · obtain rfl : j = G.length := by omega
          have hd3 : decide (G.length < G.length) = false := decide_eq_false (by omega)
          rw [List.take_length]
          have HBJ2 := Lib.hid (keep_below hbj HB6.out)
          clear hj hjt hbj
          go_wp2_with fail
          go_roundw
          case rel => exact ⟨k + 1, a && !hasE G, HLT.out, by simp, by go_num, HLK3.out, HBJ2.out⟩
          case measure => have := HLT.out; simp [RowKit.intOf]; omega
  · have hkr : k = L.length := by have := HRL.out.1; omega
    have hd1 : decide (k < rl) = false := decide_eq_false hlt
    rw [hkr, look_end] at hlk
    have HBF := Lib.hid (keep_below hb HB.out.2.2.2)
    clear hb hk hlt hkr
    cases a with
    | true =>
     simp only [came0, if_true, Prod.mk.injEq, CameD.mk.injEq] at hlk
     obtain ⟨⟨rfl, rfl, rfl, rfl⟩, rfl⟩ := hlk
     go_wp2_with fail
     refine bodyPost_ret (v := .tuple #[str [], .int .i64 0, .int .i64 0, .int .i64 4]) (by simp [results, Tryz.f21, go_sem]) rfl ⟨rfl, HBF.out⟩
    | false =>
     simp only [came0, Bool.false_eq_true, if_false, Prod.mk.injEq, CameD.mk.injEq] at hlk
     obtain ⟨⟨rfl, rfl, rfl, rfl⟩, rfl⟩ := hlk
     go_wp2_with fail
     refine bodyPost_ret (v := .tuple #[str [], .int .i64 0, .int .i64 0, .int .i64 6]) (by simp [results, Tryz.f21, go_sem]) rfl ⟨rfl, HBF.out⟩
end Go.Proofs.YtbhkbcpljakmjaaGreat

namespace Go.Proofs.YtbhkbcpljakmjaaGreat
set_option linter.unusedVariables false
set_option linter.unusedSimpArgs false
open Go.RowKit
set_option maxRecDepth 20000 in
set_option maxHeartbeats 2000000 in
theorem refUnlike_any {w : World} {L : List Col} {W G : List (List UInt8)} {hr : List Bool} {lv wv gv hv : Value} (h1 : SlAt w lv L.length (colsCells L)) (h2 : SlAt w wv W.length (strC W)) (h3 : SlAt w gv G.length (strC G)) (h4 : SlAt w hv hr.length (boolC hr))
 (e2 : W.length = L.length) (e3 : G.length = L.length) (f1 : L.length ≤ 64) (hd : ∀ c ∈ L, 0 ≤ c.1 ∧ c.1 < hr.length) (f2 : hr.length ≤ 1000) :
 Calls Tryz.prog 22 #[lv, wv, gv, hv] w fun e w' => e = .returned (.int .i64 (unlikeN (fun d => bAt hr d) L W G L.length : Nat)) ∧ Below w.heap.size w w' := by
 have HA := Lib.hid (And.intro h1 (And.intro h2 (And.intro h3 h4)))
 obtain ⟨A1, c1, rfl⟩ := h1.form
 obtain ⟨A2, c2, rfl⟩ := h2.form
 obtain ⟨A3, c3, rfl⟩ := h3.form
 obtain ⟨A4, c4, rfl⟩ := h4.form
 have HE := Lib.hid (And.intro e2 (And.intro e3 hd))
 obtain ⟨lw, hlw⟩ : ∃ lw, W.length = lw := ⟨_, rfl⟩
 obtain ⟨lg, hlg⟩ : ∃ lg, G.length = lg := ⟨_, rfl⟩
 rw [hlw, hlg] at HA
 rw [hlw, hlg]
 have HLW := Lib.hid (And.intro hlw hlg)
 clear h1 h2 h3 h4 e2 e3 hd hlw hlg
 go_enter Tryz.func22, Tryz.ntmps22
 go_wp2_with fail
 go_loopw [9, 10] (fun n t wr => ∃ k : Nat, k ≤ L.length ∧ n = .int .i64 (unlikeN (fun d => bAt hr d) L W G k : Nat) ∧ t = .int .i64 k ∧ Below w.heap.size w wr) (fun _ t _ => L.length - (RowKit.intOf t).toNat)
 case atStart => exact ⟨0, Nat.zero_le _, rfl, rfl, Below.refl _ _⟩
 case round =>
  obtain ⟨k, hk, rfl, rfl, hb⟩ := hrel
  have hst := unlikeN_step (fun d => bAt hr d) L W G k
  have hle := unlikeN_le (fun d => bAt hr d) L W G k
  obtain ⟨n, hn⟩ : ∃ n, unlikeN (fun d => bAt hr d) L W G k = n := ⟨_, rfl⟩
  rw [hn] at hst hle ⊢
  have HB := Lib.hid hb
  by_cases hlt : k < L.length
  · obtain ⟨c, hc⟩ : ∃ c, L[k]? = some c := ⟨_, List.getElem?_eq_getElem hlt⟩
    have hcd : L.getD k (0, 0, false, 0) = c := by rw [List.getD_eq_getElem?_getD, hc]; rfl
    obtain ⟨hd0, hd1⟩ := HE.out.2.2 c (List.mem_of_getElem? hc)
    obtain ⟨dn, hdn⟩ := Int.eq_ofNat_of_zero_le hd0
    have hdl : dn < hr.length := by omega
    obtain ⟨b1, o1, rfl, hb1, hc1⟩ := HA.out.1.cells (by omega)
    have hkw : k < lw := by have := HE.out.1; have := HLW.out.1; omega
    have hkg : k < lg := by have := HE.out.2.1; have := HLW.out.2; omega
    obtain ⟨b2, o2, rfl, hb2, hc2⟩ := HA.out.2.1.cells (by omega)
    obtain ⟨b3, o3, rfl, hb3, hc3⟩ := HA.out.2.2.1.cells (by omega)
    obtain ⟨b4, o4, rfl, hb4, hc4⟩ := HA.out.2.2.2.cells (by omega)
    obtain ⟨s, hs⟩ : ∃ s, W[k]? = some s := ⟨_, List.getElem?_eq_getElem (by have := HLW.out.1; omega)⟩
    obtain ⟨t, ht⟩ : ∃ t, G[k]? = some t := ⟨_, List.getElem?_eq_getElem (by have := HLW.out.2; omega)⟩
    have r1 := keepc (hc1 _ _ (colsCells_at hc).1) hb
    have r2 := keepc (hc2 _ _ (strC_at hs)) hb
    have r3 := keepc (hc3 _ _ (strC_at ht)) hb
    have r4 := keepc (hc4 _ _ (boolC_at (bAt_in hdl))) hb
    rw [hdn] at r1
    have hsd : W.getD k [] = s := by rw [List.getD_eq_getElem?_getD, hs]; rfl
    have htd : G.getD k [] = t := by rw [List.getD_eq_getElem?_getD, ht]; rfl
    rw [hcd, hsd, htd, hdn, Int.toNat_natCast] at hst
    have hdc : decide (k < L.length) = true := decide_eq_true hlt
    obtain ⟨C, hCd, hCw, hCB, hCK, hCD⟩ := cls_below wr
    have q1 : ∀ X, C X → X.cell? ⟨b1, o1 + k * 4, none⟩ = some (.int .i64 (dn : Int)) := fun X h => keepc r1 (hCB X h)
    have q2 : ∀ X, C X → X.cell? ⟨b2, o2 + k, none⟩ = some (str s) := fun X h => keepc r2 (hCB X h)
    have q3 : ∀ X, C X → X.cell? ⟨b3, o3 + k, none⟩ = some (str t) := fun X h => keepc r3 (hCB X h)
    have q4 : ∀ X, C X → X.cell? ⟨b4, o4 + dn, none⟩ = some (.bool (bAt hr dn)) := fun X h => keepc r4 (hCB X h)
    have HC := Lib.hid hCB
    clear hcd hd0 hd1 hdn hc hb1 hb2 hb3 hb4 hc1 hc2 hc3 hc4 hs ht r1 r2 r3 r4 hsd htd hn hb hCw hCB hCK hCD
    cases hbt : bAt hr dn with
    | false =>
     have HST : Hid (unlikeN (fun d => bAt hr d) L W G (k + 1) = n) := Lib.hid (by rw [hst, hbt]; rfl)
     rw [hbt] at q4
     clear hst hbt
     go_wp2_with fail
     refine wp_region_cls C (by kernel_rfl) (by kernel_rfl) hCd ?_
     repeat (first | go_big_quiet_skip | (go_big_quiet_want; go_big_quiet_op; first | go_big_quiet_on | (apply Exists.intro; refine ⟨fun W hW => ?_, ?_⟩; (focus ((first | exact rfl | exact ⟨rfl, rfl⟩ | (simp only [q1 W hW, q4 W hW, Result.andThen_ok]; first | done | exact ⟨trivial, rfl⟩ | exact rfl | exact ⟨rfl, rfl⟩) | (skip)); done)); go_big_quiet_on)))
     refine wpQuiet_nil ?_
     intro wz hwz
     have HBZ := Lib.hid (keep_below (HC.out wz hwz) HB.out)
     clear q1 q2 q3 q4 hCd hwz
     go_wp2_with fail
     go_roundw
     case rel => exact ⟨k + 1, by omega, by rw [HST.out], by go_num, HBZ.out⟩
     case measure => simp [RowKit.intOf]; omega
    | true =>
     rw [hbt] at q4
     by_cases hst2 : s = t
     · subst hst2
       have HST : Hid (unlikeN (fun d => bAt hr d) L W G (k + 1) = n) := Lib.hid (by rw [hst, hbt]; simp)
       clear hst hbt
       go_wp2_with fail
       refine wp_region_cls C (by kernel_rfl) (by kernel_rfl) hCd ?_
       repeat (first | go_big_quiet_skip | (go_big_quiet_want; go_big_quiet_op; first | go_big_quiet_on | (apply Exists.intro; refine ⟨fun W hW => ?_, ?_⟩; (focus ((first | exact rfl | exact ⟨rfl, rfl⟩ | (simp only [q1 W hW, q2 W hW, q3 W hW, q4 W hW, Result.andThen_ok]; first | done | exact ⟨trivial, rfl⟩ | exact rfl | exact ⟨rfl, rfl⟩) | (skip)); done)); go_big_quiet_on)))
       refine wpQuiet_nil ?_
       intro wz hwz
       have HBZ := Lib.hid (keep_below (HC.out wz hwz) HB.out)
       clear q1 q2 q3 q4 hCd hwz
       go_wp2_with fail
       go_roundw
       case rel => exact ⟨k + 1, by omega, by rw [HST.out], by go_num, HBZ.out⟩
       case measure => simp [RowKit.intOf]; omega
     · have hne : (s != t) = true := bne_iff_ne.2 hst2
       have hne2 : (s == t) = false := beq_eq_false_iff_ne.2 hst2
       have HST : Hid (unlikeN (fun d => bAt hr d) L W G (k + 1) = n + 1) := Lib.hid (by rw [hst, hbt, hne]; rfl)
       clear hst hbt hst2
       go_wp2_with fail
       refine wp_region_cls C (by kernel_rfl) (by kernel_rfl) hCd ?_
       repeat (first | go_big_quiet_skip | (go_big_quiet_want; go_big_quiet_op; first | go_big_quiet_on | (apply Exists.intro; refine ⟨fun W hW => ?_, ?_⟩; (focus ((first | exact rfl | exact ⟨rfl, rfl⟩ | (simp only [q1 W hW, q2 W hW, q3 W hW, q4 W hW, Result.andThen_ok]; first | done | exact ⟨trivial, rfl⟩ | exact rfl | exact ⟨rfl, rfl⟩) | (skip)); done)); go_big_quiet_on)))
       refine wpQuiet_nil ?_
       intro wz hwz
       have HBZ := Lib.hid (keep_below (HC.out wz hwz) HB.out)
       clear q1 q2 q3 q4 hCd hwz
       go_wp2_with fail
       go_roundw
       case rel => exact ⟨k + 1, by omega, by rw [HST.out]; go_num, by go_num, HBZ.out⟩
       case measure => simp [RowKit.intOf]; omega
  · obtain rfl : k = L.length := by omega
    have hdc : decide (L.length < L.length) = false := decide_eq_false (by omega)
    have HN := Lib.hid hn
    clear hst hle hn hb hlt hk
    go_wp2_with fail
    go_ret
    exact ⟨by rw [HN.out]; rfl, HB.out⟩
end Go.Proofs.YtbhkbcpljakmjaaGreat

namespace Go.Proofs.YtbhkbcpljakmjaaGreat
set_option linter.unusedVariables false
set_option linter.unusedSimpArgs false
open Go.RowKit
theorem build_ptrN (W : World) : (Instr.build 31 #[]).run Tryz.prog W = .ok (.agg #[.int .i64 0, .int .i64 0, .int .i64 0, .int .i64 0, .bool false, .int .i64 0, .int .i64 0, .int .i64 0, .int .u64 0, .int .u64 0, .int .u64 0, .int .u64 0]) W := by kernel_rfl
def ptrN : PtrD := ⟨0, 0, 0, 0, false, 0, 0, 0, 0, 0, 0, 0⟩
theorem right_ptrN (gs : List (Int × Int)) (secs : Int) : rightB gs secs ptrN = false := by
 cases h : rightB gs secs ptrN with
 | false => rfl
 | true =>
  have hm := pls_may h (0, 0) (by rw [plsL_right h]; exact List.mem_cons_self)
  have := cMay_bd hm
  have h2 := cMay_true hm
  simp [ptrN] at h2
theorem lookV_ptrN (gs : List (Int × Int)) (secs : Int) (R : PlX → List (List UInt8)) : lookV gs secs ptrN R = (came0, 1) := by
 unfold lookV
 rw [right_ptrN]
 rfl
theorem lookY_any {w : World} {S : Nat → Nat → Prop} {U : Nat → Prop} {y : VX} {aw : List Bool} {ds : List DevD} (h : VdIn w S U y aw ds) (few : y.bd.length ≤ 1000) {N : Nat} (ok : DsOk N y.secs ds) :
 Calls Tryz.prog 11 #[.agg y.cells, .agg #[.int .i64 0, .int .i64 0, .int .i64 0, .int .i64 0, .bool false, .int .i64 0, .int .i64 0, .int .i64 0, .int .u64 0, .int .u64 0, .int .u64 0, .int .u64 0]] w fun e w' => e = .returned (.tuple #[.agg #[str [], .int .i64 0, .int .i64 0, .int .i64 0], .int .i64 1]) ∧ Below w.heap.size w w' := by
 have := look_any h few ok ptrN
 rw [lookV_ptrN] at this
 exact this
theorem wholeY_any {w : World} {S : Nat → Nat → Prop} {U : Nat → Prop} {y : VX} {aw : List Bool} {ds : List DevD} (h : VdIn w S U y aw ds) (few : y.bd.length ≤ 1000) {N : Nat} (ok : DsOk N y.secs ds) :
 Calls Tryz.prog 18 #[.agg y.cells, .agg #[.int .i64 0, .int .i64 0, .int .i64 0, .int .i64 0, .bool false, .int .i64 0, .int .i64 0, .int .i64 0, .int .u64 0, .int .u64 0, .int .u64 0, .int .u64 0]] w fun e w' => e = .returned (.bool false) ∧ Below w.heap.size w w' := by
 have := whole10_any h few ok ptrN
 have hw : wholeV y.gs y.secs aw ptrN ds = false := by unfold wholeV; rw [lookV_ptrN]; rfl
 rw [hw] at this
 exact this
theorem vrightZ_any (w : World) : Calls Tryz.prog 34 #[.agg vZ] w fun e w' => e = .returned (.bool false) ∧ Below w.heap.size w w' := by
 obtain ⟨w1, hw1⟩ : ∃ y, w.alloc (.cells vZ 37) = y := ⟨_, rfl⟩
 have B1 : Blk w1 w.heap.size 37 vZ := by rw [← hw1]; exact Blk.new _ _ _
 have D1 : Below w.heap.size w w1 := by rw [← hw1]; exact keep_alloc (Below.refl _ _) _
 have HG : Hid (∀ W, Calls Tryz.prog 53 #[.agg #[.slice none 0 0, .int .i64 0]] W fun e w' => e = .returned (.bool false) ∧ Below W.heap.size W w') := Lib.hid (fun W =>
  right_any none 0 0 [] 0 W ⟨rfl, by simp, fun h => absurd h (by simp)⟩)
 have HD1 := Lib.hid D1
 have HB1 := Lib.hid B1
 have HW1 := Lib.hid hw1
 clear D1 B1 hw1
 go_enter Tryz.func34, Tryz.ntmps34
 repeat' (first
  | go_values
  | go_skip
  | go_guarded
  | ((fail_if_success (with_reducible refine drawn_mark ?_))
     first
      | go_step
      | go_upon
      | go_back
      | (simp only [Int.not_lt, Int.not_le] at *; go_simp)
      | (go_values <;> (try go_simp))
      | (go_ite <;> go_prune <;> (try go_simp))
      | (split <;> (first | (rename_i hx; exact (hx _ rfl).elim) | go_prune))))
 rw [HW1.out]
 obtain ⟨C, hCd, hCw, hCB, hCK, hCD⟩ := cls_below w1
 have f0 : ∀ W, C W → W.cell? ⟨w.heap.size, 0, none⟩ = some (.slice none 0 0) := fun W h => keep_cell (hCB W h) (HB1.out.at_ rfl) HB1.out.lt
 have f1 : ∀ W, C W → W.cell? ⟨w.heap.size, 1, none⟩ = some (.int .i64 0) := fun W h => keep_cell (hCB W h) (HB1.out.at_ rfl) HB1.out.lt
 refine wp_region_cls C (by kernel_rfl) (by kernel_rfl) hCd ?_
 repeat (first | go_big_quiet_skip | (go_big_quiet_want; go_big_quiet_op; first | go_big_quiet_on | (apply Exists.intro; refine ⟨fun W hW => ?_, ?_⟩; (focus ((first | exact rfl | exact ⟨rfl, rfl⟩ | (simp only [f0 W hW, f1 W hW, Result.andThen_ok]; first | done | exact ⟨trivial, rfl⟩ | exact rfl | exact ⟨rfl, rfl⟩) | (with_reducible refine (HG.out W).mono ?_; rintro e w' ⟨rfl, hb⟩; exact ⟨rfl, hCK _ _ hW hb⟩)); done)); go_big_quiet_on)))
 refine wpQuiet_nil ?_
 intro w2 hw2
 have HC2 := Lib.hid (hCB w2 hw2)
 clear hCd hCw hCB hCK hCD f0 f1 hw2
 go_wp2_with fail
 go_ret
 exact ⟨rfl, HD1.out.trans (HC2.out.mono HD1.out.size)⟩
theorem lookZ_any (w : World) : Calls Tryz.prog 11 #[.agg vZ, .agg #[.int .i64 0, .int .i64 0, .int .i64 0, .int .i64 0, .bool false, .int .i64 0, .int .i64 0, .int .i64 0, .int .u64 0, .int .u64 0, .int .u64 0, .int .u64 0]] w fun e w' => e = .returned (.tuple #[.agg #[str [], .int .i64 0, .int .i64 0, .int .i64 0], .int .i64 1]) ∧ Below w.heap.size w w' := by
 obtain ⟨w2, hw2⟩ : ∃ z, ((w.alloc (.cells vZ 37)).alloc (.cells #[.int .i64 0, .int .i64 0, .int .i64 0, .int .i64 0, .bool false, .int .i64 0, .int .i64 0, .int .i64 0, .int .u64 0, .int .u64 0, .int .u64 0, .int .u64 0] 31)).alloc (.cells #[str [], .int .i64 0, .int .i64 0, .int .i64 0] 45) = z := ⟨_, rfl⟩
 have B1 : Blk w2 w.heap.size 37 vZ := by rw [← hw2]; exact ((Blk.new _ _ _).alloc _).alloc _
 have B3 : Blk w2 (w.heap.size + 1 + 1) 45 #[str [], .int .i64 0, .int .i64 0, .int .i64 0] := by rw [← hw2]; have := Blk.new2 (w.alloc (.cells vZ 37)) (.cells #[.int .i64 0, .int .i64 0, .int .i64 0, .int .i64 0, .bool false, .int .i64 0, .int .i64 0, .int .i64 0, .int .u64 0, .int .u64 0, .int .u64 0, .int .u64 0] 31) 45 #[str [], .int .i64 0, .int .i64 0, .int .i64 0]; rw [World.size_alloc] at this; exact this
 have D2 : Below w.heap.size w w2 := by rw [← hw2]; exact keep_alloc (keep_alloc (keep_alloc (Below.refl _ _) _) _) _
 have HR := Lib.hid (vrightZ_any w2)
 have HB := Lib.hid B3
 have HD2 := Lib.hid D2
 have HW2 := Lib.hid hw2
 have x0 := B1.at_ (i := 0) (v := .slice none 0 0) rfl
 have x1 := B1.at_ (i := 1) (v := .int .i64 0) rfl
 have x2 := B1.at_ (i := 2) (v := .slice none 0 0) rfl
 have x3 := B1.at_ (i := 3) (v := .slice none 0 0) rfl
 rw [← hw2] at x0 x1 x2 x3
 clear B1 B3 D2 hw2
 go_enter Tryz.func11, Tryz.ntmps11
 go_wp2_with fail
 rw [HW2.out]
 refine HR.out.mono ?_
 rintro e w3 ⟨rfl, hb3⟩
 have HB3 := Lib.hid (HB.out.below hb3 HB.out.lt)
 have HD3 := Lib.hid (keep_below hb3 HD2.out)
 clear x0 x1 x2 x3 hb3
 have z0 := (HB3.out).at_ (i := 0) (v := str []) rfl
 have z1 := (HB3.out).at_ (i := 1) (v := .int .i64 0) rfl
 have z2 := (HB3.out).at_ (i := 2) (v := .int .i64 0) rfl
 have z3 := (HB3.out).at_ (i := 3) (v := .int .i64 0) rfl
 have g0 := (HB3.out).fr 0
 have g1 := (HB3.out).fr 1
 have g2 := (HB3.out).fr 2
 have g3 := (HB3.out).fr 3
 go_wp2_with fail
 have hP := ((((HB3.out).put 0 (str [])).put 1 (.int .i64 0)).put 2 (.int .i64 0)).put 3 (.int .i64 0)
 have e0 := hP.at_ (i := 0) (v := str []) rfl
 have e1 := hP.at_ (i := 1) (v := .int .i64 0) rfl
 have e2 := hP.at_ (i := 2) (v := .int .i64 0) rfl
 have e3 := hP.at_ (i := 3) (v := .int .i64 0) rfl
 refine bodyPost_ret (v := .tuple #[.agg #[str [], .int .i64 0, .int .i64 0, .int .i64 0], .int .i64 1]) (by simp [results, Tryz.f11, go_sem, e0, e1, e2, e3]) rfl ⟨rfl, below_set (below_set (below_set (below_set HD3.out _ _ _ (by omega)) _ _ _ (by omega)) _ _ _ (by omega)) _ _ _ (by omega)⟩
theorem wholeZ_any (w : World) : Calls Tryz.prog 18 #[.agg vZ, .agg #[.int .i64 0, .int .i64 0, .int .i64 0, .int .i64 0, .bool false, .int .i64 0, .int .i64 0, .int .i64 0, .int .u64 0, .int .u64 0, .int .u64 0, .int .u64 0]] w fun e w' => e = .returned (.bool false) ∧ Below w.heap.size w w' := by
 obtain ⟨w2, hw2⟩ : ∃ z, (w.alloc (.cells vZ 37)).alloc (.cells #[.int .i64 0, .int .i64 0, .int .i64 0, .int .i64 0, .bool false, .int .i64 0, .int .i64 0, .int .i64 0, .int .u64 0, .int .u64 0, .int .u64 0, .int .u64 0] 31) = z := ⟨_, rfl⟩
 have B1 : Blk w2 w.heap.size 37 vZ := by rw [← hw2]; exact (Blk.new _ _ _).alloc _
 have B2 : Blk w2 (w.heap.size + 1) 31 #[.int .i64 0, .int .i64 0, .int .i64 0, .int .i64 0, .bool false, .int .i64 0, .int .i64 0, .int .i64 0, .int .u64 0, .int .u64 0, .int .u64 0, .int .u64 0] := by rw [← hw2]; exact Blk.new2 _ _ _ _
 have D2 : Below w.heap.size w w2 := by rw [← hw2]; exact keep_alloc (keep_alloc (Below.refl _ _) _) _
 have HR := Lib.hid (lookZ_any w2)
 have HD2 := Lib.hid D2
 have HW2 := Lib.hid hw2
 have x0 := B1.at_ (i := 0) (v := .slice none 0 0) rfl
 have x1 := B1.at_ (i := 1) (v := .int .i64 0) rfl
 have x2 := B1.at_ (i := 2) (v := .slice none 0 0) rfl
 have x3 := B1.at_ (i := 3) (v := .slice none 0 0) rfl
 have p0 := B2.at_ (i := 0) (v := .int .i64 0) rfl
 have p1 := B2.at_ (i := 1) (v := .int .i64 0) rfl
 have p2 := B2.at_ (i := 2) (v := .int .i64 0) rfl
 have p3 := B2.at_ (i := 3) (v := .int .i64 0) rfl
 have p4 := B2.at_ (i := 4) (v := .bool false) rfl
 have p5 := B2.at_ (i := 5) (v := .int .i64 0) rfl
 have p6 := B2.at_ (i := 6) (v := .int .i64 0) rfl
 have p7 := B2.at_ (i := 7) (v := .int .i64 0) rfl
 have p8 := B2.at_ (i := 8) (v := .int .u64 0) rfl
 have p9 := B2.at_ (i := 9) (v := .int .u64 0) rfl
 have p10 := B2.at_ (i := 10) (v := .int .u64 0) rfl
 have p11 := B2.at_ (i := 11) (v := .int .u64 0) rfl
 rw [← hw2] at x0 x1 x2 x3 p0 p1 p2 p3 p4 p5 p6 p7 p8 p9 p10 p11
 clear B1 B2 D2 hw2
 go_enter Tryz.func18, Tryz.ntmps18
 go_wp2_with fail
 rw [HW2.out]
 refine HR.out.mono ?_
 rintro e w3 ⟨rfl, hb3⟩
 have HD3 := Lib.hid (keep_below hb3 HD2.out)
 clear x0 x1 x2 x3 p0 p1 p2 p3 p4 p5 p6 p7 p8 p9 p10 p11 hb3
 go_wp2_with fail
 go_ret
 exact ⟨rfl, keep_alloc HD3.out _⟩
end Go.Proofs.YtbhkbcpljakmjaaGreat
