/-
  Contracts of package heal: bad, mended.
-/
import Derived.Test.YtbhkbcpljakmjaaGreatJ25
import Derived.Test.YtbhkbcpljakmjaaGreatJ22
namespace Go.Proofs.YtbhkbcpljakmjaaGreat
set_option linter.unusedVariables false
set_option linter.unusedSimpArgs false
open Go.RowKit
set_option maxRecDepth 20000 in
set_option maxHeartbeats 2000000 in
theorem bad10_any {w : World} {S : Nat → Nat → Prop} {U : Nat → Prop} {y : VX} {aw : List Bool} {ds : List DevD} (h : VdIn w S U y aw ds) (few : y.bd.length ≤ 1000) (q : PtrD) (pl : Int × Int) (hm : cMay y.gs y.secs pl.1 pl.2 q.size = true) (s : List UInt8) (hl : s.length ≤ 1000) :
 Calls Tryz.prog 41 #[y.val, .agg #[.int .i64 q.ag, .int .i64 q.aa, .int .i64 q.bg, .int .i64 q.ba, .bool q.two, .int .i64 q.size, .int .i64 q.level, .int .i64 q.birth, .int .u64 q.s0, .int .u64 q.s1, .int .u64 q.s2, .int .u64 q.s3], .agg #[.int .i64 pl.1, .int .i64 pl.2], str s] w fun e w' => ∃ v, e = .returned v ∧
  SlAt w' v (badL y.gs y.secs pl.1 pl.2 s (rawP y.gs y.secs q.size aw ds pl)).length (ixC (badL y.gs y.secs pl.1 pl.2 s (rawP y.gs y.secs q.size aw ds pl))) ∧ Below w.heap.size w w' ∧ ∀ b o n c, v = .slice (some ⟨b, o, none⟩) n c → w.heap.size ≤ b := by
 obtain ⟨w2, hw2⟩ : ∃ z, ((w.alloc (.cells y.cells 37)).alloc (.cells #[.int .i64 q.ag, .int .i64 q.aa, .int .i64 q.bg, .int .i64 q.ba, .bool q.two, .int .i64 q.size, .int .i64 q.level, .int .i64 q.birth, .int .u64 q.s0, .int .u64 q.s1, .int .u64 q.s2, .int .u64 q.s3] 31)).alloc (.cells #[.int .i64 pl.1, .int .i64 pl.2] 26) = z := ⟨_, rfl⟩
 have B1 : Blk w2 w.heap.size 37 y.cells := by rw [← hw2]; exact ((Blk.new _ _ _).alloc _).alloc _
 have B2 : Blk w2 (w.heap.size + 1) 31 #[.int .i64 q.ag, .int .i64 q.aa, .int .i64 q.bg, .int .i64 q.ba, .bool q.two, .int .i64 q.size, .int .i64 q.level, .int .i64 q.birth, .int .u64 q.s0, .int .u64 q.s1, .int .u64 q.s2, .int .u64 q.s3] := by rw [← hw2]; exact (Blk.new2 _ _ _ _).alloc _
 have B3 : Blk w2 (w.heap.size + 1 + 1) 26 #[.int .i64 pl.1, .int .i64 pl.2] := by rw [← hw2]; have := Blk.new2 (w.alloc (.cells y.cells 37)) (.cells #[.int .i64 q.ag, .int .i64 q.aa, .int .i64 q.bg, .int .i64 q.ba, .bool q.two, .int .i64 q.size, .int .i64 q.level, .int .i64 q.birth, .int .u64 q.s0, .int .u64 q.s1, .int .u64 q.s2, .int .u64 q.s3] 31) 26 #[.int .i64 pl.1, .int .i64 pl.2]; rw [World.size_alloc] at this; exact this
 have D2 : Below w.heap.size w w2 := by rw [← hw2]; exact keep_alloc (keep_alloc (keep_alloc (Below.refl _ _) _) _) _
 have HVR := vraw_any (h.below D2) few pl.1 pl.2 q.size
 rw [ofErr_good hm] at HVR
 have HVR := Lib.hid HVR
 have HG2 := Lib.hid (h.geo.below D2 (Nat.le_refl _))
 obtain ⟨R, hR⟩ : ∃ R, rawP y.gs y.secs q.size aw ds pl = R := ⟨_, rfl⟩
 have hR' : rawL y.gs y.secs pl.1 pl.2 q.size aw ds = R := hR
 rw [hR'] at HVR
 rw [hR]
 have HB := Lib.hid (And.intro B1 (And.intro B2 B3))
 have HD2 := Lib.hid D2
 have HW2 := Lib.hid hw2
 clear h B1 B2 B3 D2 hw2 hR hR' hm
 have hB := HB.out
 rw [← HW2.out] at hB
 have x0 := hB.1.at_ (i := 0) (v := .slice (some ⟨y.gb, 0, none⟩) y.m y.cc) rfl
 have x1 := hB.1.at_ (i := 1) (v := .int .i64 y.secs) rfl
 have x2 := hB.1.at_ (i := 2) (v := .slice (some ⟨y.lb, 0, none⟩) y.bd.length y.lc) rfl
 have x3 := hB.1.at_ (i := 3) (v := .slice (some ⟨y.ab, 0, none⟩) y.bd.length y.bd.length) rfl
 have p5 := hB.2.1.at_ (i := 5) (v := .int .i64 q.size) rfl
 have l0 := hB.2.2.at_ (i := 0) (v := .int .i64 pl.1) rfl
 have l1 := hB.2.2.at_ (i := 1) (v := .int .i64 pl.2) rfl
 clear hB
 go_enter Tryz.func41, Tryz.ntmps41
 go_wp2_with fail
 rw [HW2.out]
 refine HVR.out.mono ?_
 rintro e w3 ⟨v, rfl, hsl, hb3, hnew⟩
 obtain ⟨Av, cv, rfl⟩ := hsl.form
 have HBD := Lib.hid (bad_any (some ⟨y.gb, 0, none⟩) y.m y.cc y.gs y.secs pl.1 pl.2 s (HG2.out.below hb3 (Nat.le_refl _)) hsl hl)
 have HD3 := Lib.hid (keep_below hb3 HD2.out)
 have hB := And.intro (HB.out.1.below hb3 HB.out.1.lt) (HB.out.2.2.below hb3 HB.out.2.2.lt)
 clear x0 x1 x2 x3 p5 l0 l1 hsl hb3 hnew
 have x0 := hB.1.at_ (i := 0) (v := .slice (some ⟨y.gb, 0, none⟩) y.m y.cc) rfl
 have x1 := hB.1.at_ (i := 1) (v := .int .i64 y.secs) rfl
 have l0 := hB.2.at_ (i := 0) (v := .int .i64 pl.1) rfl
 have l1 := hB.2.at_ (i := 1) (v := .int .i64 pl.2) rfl
 clear hB
 go_wp2_with fail
 refine HBD.out.mono ?_
 rintro e w4 ⟨bv, rfl, hown, hb4⟩
 have HF := Lib.hid (And.intro (slAt_own hown) (And.intro (keep_below hb4 HD3.out) (fun b o n c (e : bv = .slice (some ⟨b, o, none⟩) n c) => (hown.lt b (by
  rcases hown.2 with ⟨hn, _⟩ | ⟨g, cap, cur, hv, _⟩
  · rw [hn] at e; cases e
  · rw [hv] at e ⊢; cases e; rfl)).1)))
 have HSZ := Lib.hid HD3.out.size
 clear hown hb4 x0 x1 l0 l1
 go_wp2_with fail
 go_ret
 exact ⟨_, rfl, HF.out.1, HF.out.2.1, fun b o n c e => Nat.le_trans HSZ.out (HF.out.2.2 b o n c e)⟩
theorem enc_pl {gs : List (Int × Int)} {secs : Int} {pl : Int × Int} {s : List UInt8} (h2 : secOk s = true) (h3 : cMay gs secs pl.1 pl.2 (secN s) = true) : encE gs secs pl.1 pl.2 s = 0 := by
 unfold encE ofErr
 rw [h2, if_pos rfl, if_pos h3]
theorem mendB_le {gs : List (Int × Int)} {secs : Int} {aw : List Bool} {s : List UInt8} {ds : List DevD} {pl : PlX} : mendB gs secs aw s ds pl ≤ 64 := by
 unfold mendB
 exact Nat.le_trans (mendN_le _ _ _) bad_few
theorem mendC_le (gs : List (Int × Int)) (secs : Int) (aw : List Bool) (s : List UInt8) : ∀ (l : List PlX) (ds : List DevD), mendC gs secs aw s l ds ≤ 64 * l.length
 | [], _ => Nat.zero_le _
 | pl :: r, ds => by
   have h1 := mendC_le gs secs aw s r (mendAt gs secs aw s ds pl)
   have h2 := mendB_le (gs := gs) (secs := secs) (aw := aw) (s := s) (ds := ds) (pl := pl)
   show mendB gs secs aw s ds pl + mendC gs secs aw s r _ ≤ _
   rw [List.length_cons]
   omega
set_option maxRecDepth 20000 in
set_option maxHeartbeats 4000000 in
theorem mended_any {w : World} {S : Nat → Nat → Prop} {U : Nat → Prop} {y : VX} {aw : List Bool} {ds : List DevD} (h : VdIn w S U y aw ds) (few : y.bd.length ≤ 1000) {N : Nat} (ok : DsOk N y.secs ds) (hN : N ≤ 800000) (q : PtrD) (hq : rightB y.gs y.secs q = true)
 (s : List UInt8) (hs : (secN s : Int) = q.size) (hs2 : secOk s = true) (m : Nat) (hm : m ≤ (plsL q).length) :
 Calls Tryz.prog 36 #[y.val, .agg #[.int .i64 q.ag, .int .i64 q.aa, .int .i64 q.bg, .int .i64 q.ba, .bool q.two, .int .i64 q.size, .int .i64 q.level, .int .i64 q.birth, .int .u64 q.s0, .int .u64 q.s1, .int .u64 q.s2, .int .u64 q.s3], str s, .int .i64 m] w fun e w' => e = .returned (.int .i64 (mendC y.gs y.secs aw s ((plsL q).take m) ds : Nat)) ∧
  (∃ S', VdIn w' S' U y aw (mendAll y.gs y.secs aw s ((plsL q).take m) ds)) ∧ Stays U w w' := by
 obtain ⟨w2, hw2⟩ : ∃ z, (w.alloc (.cells y.cells 37)).alloc (.cells #[.int .i64 q.ag, .int .i64 q.aa, .int .i64 q.bg, .int .i64 q.ba, .bool q.two, .int .i64 q.size, .int .i64 q.level, .int .i64 q.birth, .int .u64 q.s0, .int .u64 q.s1, .int .u64 q.s2, .int .u64 q.s3] 31) = z := ⟨_, rfl⟩
 have B1 : Blk w2 w.heap.size 37 y.cells := by rw [← hw2]; exact (Blk.new _ _ _).alloc _
 have B2 : Blk w2 (w.heap.size + 1) 31 #[.int .i64 q.ag, .int .i64 q.aa, .int .i64 q.bg, .int .i64 q.ba, .bool q.two, .int .i64 q.size, .int .i64 q.level, .int .i64 q.birth, .int .u64 q.s0, .int .u64 q.s1, .int .u64 q.s2, .int .u64 q.s3] := by rw [← hw2]; exact Blk.new2 _ _ _ _
 have D2 : Below w.heap.size w w2 := by rw [← hw2]; exact keep_alloc (keep_alloc (Below.refl _ _) _) _
 have hmay := pls_may hq
 have hl2 := plsL_len q
 have hl : s.length ≤ 1000 := by
  unfold secOk at hs2
  simp only [Bool.and_eq_true, decide_eq_true_eq] at hs2
  omega
 have HPL := Lib.hid (places2_any q w2)
 obtain ⟨L, hL⟩ : ∃ L, plsL q = L := ⟨_, rfl⟩
 rw [hL] at HPL hmay hl2 hm
 rw [hL]
 have HH := Lib.hid (And.intro h (And.intro ok (And.intro hmay (And.intro hs hs2))))
 have HB := Lib.hid (And.intro B1 B2)
 have HD2 := Lib.hid D2
 have HW2 := Lib.hid hw2
 clear h ok hq hs hs2 B1 B2 D2 hw2 hmay hL
 have hB := HB.out
 rw [← HW2.out] at hB
 have x0 := (hB).1.at_ (i := 0) (v := .slice (some ⟨y.gb, 0, none⟩) y.m y.cc) rfl
 have x1 := (hB).1.at_ (i := 1) (v := .int .i64 y.secs) rfl
 have x2 := (hB).1.at_ (i := 2) (v := .slice (some ⟨y.lb, 0, none⟩) y.bd.length y.lc) rfl
 have x3 := (hB).1.at_ (i := 3) (v := .slice (some ⟨y.ab, 0, none⟩) y.bd.length y.bd.length) rfl
 have p0 := (hB).2.at_ (i := 0) (v := .int .i64 q.ag) rfl
 have p1 := (hB).2.at_ (i := 1) (v := .int .i64 q.aa) rfl
 have p2 := (hB).2.at_ (i := 2) (v := .int .i64 q.bg) rfl
 have p3 := (hB).2.at_ (i := 3) (v := .int .i64 q.ba) rfl
 have p4 := (hB).2.at_ (i := 4) (v := .bool q.two) rfl
 have p5 := (hB).2.at_ (i := 5) (v := .int .i64 q.size) rfl
 have p6 := (hB).2.at_ (i := 6) (v := .int .i64 q.level) rfl
 have p7 := (hB).2.at_ (i := 7) (v := .int .i64 q.birth) rfl
 have p8 := (hB).2.at_ (i := 8) (v := .int .u64 q.s0) rfl
 have p9 := (hB).2.at_ (i := 9) (v := .int .u64 q.s1) rfl
 have p10 := (hB).2.at_ (i := 10) (v := .int .u64 q.s2) rfl
 have p11 := (hB).2.at_ (i := 11) (v := .int .u64 q.s3) rfl
 clear hB
 go_enter Tryz.func36, Tryz.ntmps36
 go_wp2_with fail
 rw [HW2.out]
 refine HPL.out.mono ?_
 rintro e w4 ⟨⟨pv, rfl, hsl, hnew⟩, hb4⟩
 obtain ⟨Ap, cp, hpv, hcp, hcells⟩ := hsl
 subst hpv
 have HD4 := Lib.hid (keep_below hb4 HD2.out)
 obtain ⟨U2, hU2⟩ : ∃ U2, U2 = more U w w4 := ⟨_, rfl⟩
 have hV4 : VdIn w4 S U2 y aw ds := by rw [hU2]; exact HH.out.1.more HD4.out
 have HUL := Lib.hid hV4.us
 have HPX : Hid (SlU w4 U2 (.slice Ap L.length cp) L.length (grC L)) := Lib.hid (slU_new ⟨_, _, rfl, hcp, hcells⟩ hnew (fun b h1 h2 => by rw [hU2]; exact .inr ⟨by have := HD2.out.size; omega, h2⟩))
 have HXB : Hid (Blk w4 w.heap.size 37 y.cells ∧ Blk w4 (w.heap.size + 1) 31 #[.int .i64 q.ag, .int .i64 q.aa, .int .i64 q.bg, .int .i64 q.ba, .bool q.two, .int .i64 q.size, .int .i64 q.level, .int .i64 q.birth, .int .u64 q.s0, .int .u64 q.s1, .int .u64 q.s2, .int .u64 q.s3]) := Lib.hid ⟨HB.out.1.below hb4 HB.out.1.lt, HB.out.2.below hb4 HB.out.2.lt⟩
 have HUB : Hid (U2 w.heap.size ∧ U2 (w.heap.size + 1) ∧ ∀ b, U b → U2 b) := Lib.hid (by rw [hU2]; exact ⟨.inr ⟨Nat.le_refl _, HXB.out.1.lt⟩, .inr ⟨Nat.le_succ _, HXB.out.2.lt⟩, fun b hb => .inl hb⟩)
 have HV4 := Lib.hid hV4
 clear x0 x1 x2 x3 p0 p1 p2 p3 p4 p5 p6 p7 p8 p9 p10 p11 hb4 hcells hnew hU2 hV4
 have hmc : m ≤ cp := by omega
 go_wp2_with fail
 go_loopw [9, 11, 17] (fun n _ t wr => ∃ (k : Nat) (S' : Nat → Nat → Prop), k ≤ m ∧ t = .int .i64 k ∧ n = .int .i64 (mendC y.gs y.secs aw s (L.take k) ds : Nat) ∧ VdIn wr S' U2 y aw (mendAll y.gs y.secs aw s (L.take k) ds) ∧ Stays U2 w4 wr) (fun _ _ t _ => m - (RowKit.intOf t).toNat)
 case atStart => exact ⟨0, S, Nat.zero_le _, rfl, rfl, HV4.out, stays_refl _⟩
 case round =>
  clear HV4
  obtain ⟨k, S', hk, rfl, rfl, hV, hst⟩ := hrel
  have HEQ := Lib.hid (hst.eq HUL.out)
  have HST := Lib.hid hst
  have HV := Lib.hid hV
  obtain ⟨n, hn⟩ : ∃ n, mendC y.gs y.secs aw s (L.take k) ds = n := ⟨_, rfl⟩
  have hn64 : n ≤ 1000 := by rw [← hn]; have := mendC_le y.gs y.secs aw s (L.take k) ds; rw [List.length_take] at this; omega
  rw [hn]
  have HN := Lib.hid hn
  clear hV hst hn
  by_cases hlt : k < m
  · obtain ⟨pl, hpl⟩ : ∃ pl, L[k]? = some pl := ⟨_, List.getElem?_eq_getElem (by omega)⟩
    have hmp := HH.out.2.2.1 pl (List.mem_of_getElem? hpl)
    have hts := take_snoc hpl
    obtain ⟨dsk, hdk⟩ : ∃ dsk, mendAll y.gs y.secs aw s (L.take k) ds = dsk := ⟨_, rfl⟩
    have hmA : mendAll y.gs y.secs aw s (L.take (k + 1)) ds = mendAt y.gs y.secs aw s dsk pl := by rw [hts, mendAll_snoc, hdk]
    have hmC : mendC y.gs y.secs aw s (L.take (k + 1)) ds = n + mendB y.gs y.secs aw s dsk pl := by rw [hts, mendC_snoc, HN.out, hdk]
    have hokk := mendAll_ok (gs := y.gs) (secs := y.secs) (aw := aw) (s := s) (L.take k) ds HH.out.2.1
    rw [hdk] at hokk HV
    have hmp2 : cMay y.gs y.secs pl.1 pl.2 (secN s) = true := by rw [HH.out.2.2.2.1]; exact hmp
    have hE := enc_pl HH.out.2.2.2.2 hmp2
    obtain ⟨hc0, hc1⟩ := grC_get hpl
    obtain ⟨bp, op, rfl, hbp, hcp'⟩ := HPX.out.cells (by omega)
    have l0 : wr.cell? ⟨bp, op + k * 2, none⟩ = some (.int .i64 pl.1) := (cell_same' (HEQ.out bp hbp)).trans (hcp' _ _ hc0)
    have l1 : wr.cell? ⟨bp, op + k * 2 + 1, none⟩ = some (.int .i64 pl.2) := (cell_same' (HEQ.out bp hbp)).trans (hcp' _ _ hc1)
    obtain ⟨w6, hw6⟩ : ∃ z, wr.alloc (.cells #[.int .i64 pl.1, .int .i64 pl.2] 26) = z := ⟨_, rfl⟩
    have hb6 : Below wr.heap.size wr w6 := by rw [← hw6]; exact keep_alloc (Below.refl _ _) _
    have hN6 : Blk w6 wr.heap.size 26 #[.int .i64 pl.1, .int .i64 pl.2] := by rw [← hw6]; exact Blk.new _ _ _
    obtain ⟨U3, hU3⟩ : ∃ U3, U3 = more U2 wr w6 := ⟨_, rfl⟩
    have hV6 : VdIn w6 S' U3 y aw dsk := by rw [hU3]; exact HV.out.more hb6
    have hV6d : VdIn w6.drew S' U3 y aw dsk := hV6.same (w' := w6.drew) (Nat.le_refl _) (fun _ _ => rfl) (fun _ _ _ => rfl)
    have HU3L := Lib.hid hV6.us
    have hu3 : U3 w.heap.size ∧ U3 (w.heap.size + 1) ∧ U3 wr.heap.size ∧ ∀ b, U2 b → U3 b := by rw [hU3]; exact ⟨.inl HUB.out.1, .inl HUB.out.2.1, .inr ⟨Nat.le_refl _, hN6.lt⟩, fun b hb => .inl hb⟩
    have HU3 := Lib.hid hu3
    have hx6 : Blk w6 w.heap.size 37 y.cells := (hb6.block _ (HV.out.us _ HUB.out.1)).trans ((HEQ.out _ HUB.out.1).trans HXB.out.1)
    have hp6 : Blk w6 (w.heap.size + 1) 31 #[.int .i64 q.ag, .int .i64 q.aa, .int .i64 q.bg, .int .i64 q.ba, .bool q.two, .int .i64 q.size, .int .i64 q.level, .int .i64 q.birth, .int .u64 q.s0, .int .u64 q.s1, .int .u64 q.s2, .int .u64 q.s3] := (hb6.block _ (HV.out.us _ HUB.out.2.1)).trans ((HEQ.out _ HUB.out.2.1).trans HXB.out.2)
    have HBD := bad10_any hV6d few q pl hmp s hl
    obtain ⟨Bl, hBl⟩ : ∃ Bl, badL y.gs y.secs pl.1 pl.2 s (rawP y.gs y.secs q.size aw dsk pl) = Bl := ⟨_, rfl⟩
    have hBl64 : Bl.length ≤ 64 := by rw [← hBl]; exact bad_few
    have hBll : ∀ i ∈ Bl, i < (ofList y.gs y.secs pl.1 pl.2 (secN s)).length := by rw [← hBl]; exact bad_lt
    have hmB : mendB y.gs y.secs aw s dsk pl = mendN (hereD aw dsk) (ofList y.gs y.secs pl.1 pl.2 (secN s)) Bl := by unfold mendB; rw [HH.out.2.2.2.1, hBl, ← HH.out.2.2.2.1]
    have hmT : mendAt y.gs y.secs aw s dsk pl = mendTo aw (ofList y.gs y.secs pl.1 pl.2 (secN s)) (encL y.gs y.secs pl.1 pl.2 s) dsk Bl := by unfold mendAt; rw [HH.out.2.2.2.1, hBl, ← HH.out.2.2.2.1]
    have hmB64 : mendB y.gs y.secs aw s dsk pl ≤ 64 := mendB_le
    rw [hBl] at HBD
    have HBD := Lib.hid HBD
    have HBL := Lib.hid (And.intro hBl64 hBll)
    obtain ⟨S0, hS0⟩ : ∃ S0 : World → Prop, S0 = fun W => ∀ g, (g = w.heap.size ∨ g = w.heap.size + 1 ∨ g = wr.heap.size) → W.heap[g]? = w6.heap[g]? := ⟨_, rfl⟩
    have hS1 : ∀ W, Stays U3 w6 W → S0 W := fun W hW => by
     rw [hS0]
     intro g hg
     have hU : U3 g := by
      rcases hg with rfl | rfl | rfl
      · exact hu3.1
      · exact hu3.2.1
      · exact hu3.2.2.1
     exact hW.heap hU (HU3L.out g hU)
    have HS0 := Lib.hid hS0
    have f0 : ∀ W, S0 W → W.cell? ⟨w.heap.size, 0, none⟩ = some (.slice (some ⟨y.gb, 0, none⟩) y.m y.cc) := fun W h => by rw [hS0] at h; exact (cell_same' (h _ (.inl rfl))).trans (hx6.at_ rfl)
    have f1 : ∀ W, S0 W → W.cell? ⟨w.heap.size, 1, none⟩ = some (.int .i64 y.secs) := fun W h => by rw [hS0] at h; exact (cell_same' (h _ (.inl rfl))).trans (hx6.at_ rfl)
    have f2 : ∀ W, S0 W → W.cell? ⟨w.heap.size, 2, none⟩ = some (.slice (some ⟨y.lb, 0, none⟩) y.bd.length y.lc) := fun W h => by rw [hS0] at h; exact (cell_same' (h _ (.inl rfl))).trans (hx6.at_ rfl)
    have f3 : ∀ W, S0 W → W.cell? ⟨w.heap.size, 3, none⟩ = some (.slice (some ⟨y.ab, 0, none⟩) y.bd.length y.bd.length) := fun W h => by rw [hS0] at h; exact (cell_same' (h _ (.inl rfl))).trans (hx6.at_ rfl)
    have f4 : ∀ W, S0 W → W.cell? ⟨w.heap.size + 1, 0, none⟩ = some (.int .i64 q.ag) := fun W h => by rw [hS0] at h; exact (cell_same' (h _ (.inr (.inl rfl)))).trans (hp6.at_ rfl)
    have f5 : ∀ W, S0 W → W.cell? ⟨w.heap.size + 1, 1, none⟩ = some (.int .i64 q.aa) := fun W h => by rw [hS0] at h; exact (cell_same' (h _ (.inr (.inl rfl)))).trans (hp6.at_ rfl)
    have f6 : ∀ W, S0 W → W.cell? ⟨w.heap.size + 1, 2, none⟩ = some (.int .i64 q.bg) := fun W h => by rw [hS0] at h; exact (cell_same' (h _ (.inr (.inl rfl)))).trans (hp6.at_ rfl)
    have f7 : ∀ W, S0 W → W.cell? ⟨w.heap.size + 1, 3, none⟩ = some (.int .i64 q.ba) := fun W h => by rw [hS0] at h; exact (cell_same' (h _ (.inr (.inl rfl)))).trans (hp6.at_ rfl)
    have f8 : ∀ W, S0 W → W.cell? ⟨w.heap.size + 1, 4, none⟩ = some (.bool q.two) := fun W h => by rw [hS0] at h; exact (cell_same' (h _ (.inr (.inl rfl)))).trans (hp6.at_ rfl)
    have f9 : ∀ W, S0 W → W.cell? ⟨w.heap.size + 1, 5, none⟩ = some (.int .i64 q.size) := fun W h => by rw [hS0] at h; exact (cell_same' (h _ (.inr (.inl rfl)))).trans (hp6.at_ rfl)
    have f10 : ∀ W, S0 W → W.cell? ⟨w.heap.size + 1, 6, none⟩ = some (.int .i64 q.level) := fun W h => by rw [hS0] at h; exact (cell_same' (h _ (.inr (.inl rfl)))).trans (hp6.at_ rfl)
    have f11 : ∀ W, S0 W → W.cell? ⟨w.heap.size + 1, 7, none⟩ = some (.int .i64 q.birth) := fun W h => by rw [hS0] at h; exact (cell_same' (h _ (.inr (.inl rfl)))).trans (hp6.at_ rfl)
    have f12 : ∀ W, S0 W → W.cell? ⟨w.heap.size + 1, 8, none⟩ = some (.int .u64 q.s0) := fun W h => by rw [hS0] at h; exact (cell_same' (h _ (.inr (.inl rfl)))).trans (hp6.at_ rfl)
    have f13 : ∀ W, S0 W → W.cell? ⟨w.heap.size + 1, 9, none⟩ = some (.int .u64 q.s1) := fun W h => by rw [hS0] at h; exact (cell_same' (h _ (.inr (.inl rfl)))).trans (hp6.at_ rfl)
    have f14 : ∀ W, S0 W → W.cell? ⟨w.heap.size + 1, 10, none⟩ = some (.int .u64 q.s2) := fun W h => by rw [hS0] at h; exact (cell_same' (h _ (.inr (.inl rfl)))).trans (hp6.at_ rfl)
    have f15 : ∀ W, S0 W → W.cell? ⟨w.heap.size + 1, 11, none⟩ = some (.int .u64 q.s3) := fun W h => by rw [hS0] at h; exact (cell_same' (h _ (.inr (.inl rfl)))).trans (hp6.at_ rfl)
    have f16 : ∀ W, S0 W → W.cell? ⟨wr.heap.size, 0, none⟩ = some (.int .i64 pl.1) := fun W h => by rw [hS0] at h; exact (cell_same' (h _ (.inr (.inr rfl)))).trans (hN6.at_ rfl)
    have f17 : ∀ W, S0 W → W.cell? ⟨wr.heap.size, 1, none⟩ = some (.int .i64 pl.2) := fun W h => by rw [hS0] at h; exact (cell_same' (h _ (.inr (.inr rfl)))).trans (hN6.at_ rfl)
    have hSw : S0 w6.drew := hS1 _ (Only.drew (stays_refl _))
    have HS1 := Lib.hid hS1
    have hd1 : decide (k < m) = true := decide_eq_true hlt
    have HLT := Lib.hid hlt
    have HW6 := Lib.hid hw6
    have HB6 := Lib.hid hb6
    have HV6 := Lib.hid hV6
    have HMM := Lib.hid (And.intro hmA (And.intro hmC (And.intro hmB hmT)))
    have HE := Lib.hid hE
    have HOKK := Lib.hid hokk
    clear hlt hpl hmp hts hdk hmA hmC hmB hmT hokk hmp2 hE hc0 hc1 hbp hcp' hw6 hb6 hN6 hU3 hV6 hV6d hu3 hx6 hp6 hBl hBl64 hBll hS0 hS1
    go_wp2_with fail
    rw [HW6.out]
    refine G.wp_region_eff S0 [8, 9] 10 (by kernel_rfl) (by kernel_rfl) (by kernel_rfl) hSw ?_
    simp only [List.take_succ_cons, List.take_zero, List.drop_succ_cons, List.drop_zero]
    refine G.wpLexE_take 8 (by kernel_rfl) (by kernel_rfl) ?_
    simp only [List.take_succ_cons, List.take_zero, List.drop_succ_cons, List.drop_zero]
    repeat (first | go_big_quiet_skip | (go_big_quiet_want; go_big_quiet_op; first | go_big_quiet_on | (apply Exists.intro; refine ⟨fun W hW => ?_, ?_⟩; (focus ((first | exact rfl | exact ⟨rfl, rfl⟩ | (simp only [f0 W hW, f1 W hW, f2 W hW, f3 W hW, f4 W hW, f5 W hW, f6 W hW, f7 W hW, f8 W hW, f9 W hW, f10 W hW, f11 W hW, f12 W hW, f13 W hW, f14 W hW, f15 W hW, f16 W hW, f17 W hW, Result.andThen_ok]; first | done | exact ⟨trivial, rfl⟩ | exact rfl | exact ⟨rfl, rfl⟩) | (skip)); done)); go_big_quiet_on)))
    refine wpQuiet_nil ?_
    show G.wpLexE _ _ _ _ _ _ _ _ _
    refine G.wpLexE_effg (by kernel_rfl) rfl ?_
    clear f0 f1 f2 f3 f4 f5 f6 f7 f8 f9 f10 f11 f12 f13 f14 f15 f16 f17
    go_wp2_with fail
    refine HBD.out.mono ?_
    rintro e w7 ⟨bv, rfl, hsl7, hb7, hnew7⟩
    obtain ⟨Ab, cb, rfl⟩ := hsl7.form
    have hb7' : Below w6.heap.size w6 w7 := ⟨hb7.os, hb7.tape, hb7.output, hb7.size, fun i hi => hb7.block i hi⟩
    obtain ⟨U4, hU4⟩ : ∃ U4, U4 = more U3 w6 w7 := ⟨_, rfl⟩
    have hV7 : VdIn w7 S' U4 y aw dsk := by rw [hU4]; exact HV6.out.more hb7'
    have hSL7 : SlU w7 U4 (.slice Ab Bl.length cb) Bl.length (ixC Bl) := slU_new hsl7 hnew7 (fun b h1 h2 => by rw [hU4]; exact .inr ⟨h1, h2⟩)
    have hu4 : ∀ b, U3 b → U4 b := by rw [hU4]; exact fun b hb => .inl hb
    have hS7 : S0 w7 := HS1.out _ (stays_below hb7')
    have HMD := vmend_any hV7 HOKK.out (by rw [List.length_take]; omega) few pl.1 pl.2 s (by omega) HE.out hSL7 HBL.out.2 HBL.out.1
    rw [← HMM.out.2.2.1, ← HMM.out.2.2.2, ← HMM.out.1] at HMD
    have HMD := Lib.hid HMD
    have HV7 := Lib.hid (And.intro hV7.us (And.intro hu4 hb7'))
    clear hb7 hb7' hU4 hV7 hSL7 hu4 hsl7 hnew7 hSw HBD
    go_wp2_with fail
    refine ⟨rfl, hS7, ?_⟩
    show G.wpLexE _ _ _ _ _ _ _ _ _
    refine G.wpLexE_effg (by kernel_rfl) rfl ?_
    obtain ⟨mb, hmb⟩ : ∃ mb, mendB y.gs y.secs aw s dsk pl = mb := ⟨_, rfl⟩
    rw [hmb] at HMD HMM hmB64
    clear hmb
    go_wp2_with fail
    refine HMD.out.mono ?_
    rintro e w8 ⟨rfl, ⟨S8, hV8⟩, hst8⟩
    have hst68 : Stays U3 w6 w8 := (stays_below HV7.out.2.2).trans (hst8.mono HV7.out.2.1)
    have hS8 : S0 w8 := HS1.out _ hst68
    have HV8 := Lib.hid (hV8.narrow (U := U2) (fun b hb => HV7.out.2.1 b (HU3.out.2.2.2 b hb)) HV.out.ug HV.out.ul HV.out.ua)
    have HST8 := Lib.hid (HST.out.trans ((stays_below HB6.out).trans (hst68.mono HU3.out.2.2.2)))
    clear hst8 hV8 hst68 hS7 HMD
    go_wp2_with fail
    refine ⟨rfl, hS8, ?_⟩
    show wpList _ _ _ _ _ _
    clear hS8
    go_wp2_with fail
    go_roundw
    case rel => exact ⟨k + 1, S8, HLT.out, by go_num, by rw [HMM.out.2.1]; go_num, HV8.out, HST8.out⟩
    case measure => have := HLT.out; simp [RowKit.intOf]; omega
  · obtain rfl : k = m := by omega
    have hdc : decide (k < k) = false := decide_eq_false (by omega)
    have HF := Lib.hid HV.out
    go_wp2_with fail
    go_ret
    rw [HN.out]
    exact ⟨rfl, ⟨S', HF.out.narrow (fun b hb => HUB.out.2.2 b hb) HH.out.1.ug HH.out.1.ul HH.out.1.ua⟩, (stays_below HD4.out).trans (HST.out.mono (fun b hb => HUB.out.2.2 b hb))⟩
end Go.Proofs.YtbhkbcpljakmjaaGreat
