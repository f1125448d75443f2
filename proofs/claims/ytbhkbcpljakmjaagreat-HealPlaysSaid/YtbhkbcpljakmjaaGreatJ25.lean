/-
  Contracts of package heal: Look.
  Contracts of package vdev: Mend.
-/
import Derived.Test.YtbhkbcpljakmjaaGreatJ23
import Derived.Test.YtbhkbcpljakmjaaGreatJ24
import Derived.Test.YtbhkbcpljakmjaaGreatJ18
namespace Go.Proofs.YtbhkbcpljakmjaaGreat
set_option linter.unusedVariables false
set_option linter.unusedSimpArgs false
open Go.RowKit
set_option maxRecDepth 100000 in
set_option maxHeartbeats 2000000 in
theorem places2_any (p : PtrD) (w : World) :
 Calls Tryz.prog 19 #[.agg #[.int .i64 p.ag, .int .i64 p.aa, .int .i64 p.bg, .int .i64 p.ba, .bool p.two, .int .i64 p.size, .int .i64 p.level, .int .i64 p.birth, .int .u64 p.s0, .int .u64 p.s1, .int .u64 p.s2, .int .u64 p.s3]] w fun e w' => (∃ v, e = .returned v ∧ SlAt w' v (plsL p).length (grC (plsL p)) ∧ ∀ b o n c, v = .slice (some ⟨b, o, none⟩) n c → w.heap.size ≤ b) ∧ Below w.heap.size w w' := by
 have hb := (Below.refl w.heap.size w).alloc (Nat.le_refl _) (.cells p.cells 31)
 have hs : w.heap.size < (w.alloc (.cells p.cells 31)).heap.size := by simp
 have HP := Lib.hid (PtrAt.new w p 31)
 have h := HP.out
 obtain ⟨h0, h1, h2, h3, h4, h5, h6, h7, h8, h9, ha, hc⟩ := h
 simp only [Nat.zero_add] at h1 h2 h3 h4 h5 h6 h7 h8 h9 ha hc
 show Calls Tryz.prog 19 #[.agg p.cells] w _
 go_enter Tryz.func19, Tryz.ntmps19
 go_wp2_with fail
 refine (none_any p _).mono ?_
 rintro e w1 ⟨rfl, hb1⟩
 have hP1 := HP.out.keep hb1 hs
 have hs1 := keep_size hb1 hs
 have hb2 := hb.trans (hb1.mono hb.size)
 clear h0 h1 h2 h3 h4 h5 h6 h7 h8 h9 ha hc HP hb1 hb
 obtain ⟨h0, h1, h2, h3, h4, h5, h6, h7, h8, h9, ha, hc⟩ := hP1
 simp only [Nat.zero_add] at h1 h2 h3 h4 h5 h6 h7 h8 h9 ha hc
 have HSZ := Lib.hid hb2.size
 cases hn : noneB p with
 | true =>
  have HN : Hid (plsL p = []) := Lib.hid (by unfold plsL; rw [hn]; rfl)
  go_wp2_with fail
  go_ret
  rw [HN.out]
  exact ⟨⟨_, rfl, ⟨none, 0, rfl, Nat.le_refl _, fun h => absurd h (Nat.lt_irrefl 0)⟩, fun b o n c h => by simp at h⟩, hb2⟩
 | false =>
  cases ht : p.two with
  | true =>
   have HN : Hid (plsL p = [(p.ag, p.aa), (p.bg, p.ba)]) := Lib.hid (by unfold plsL; rw [hn, ht]; rfl)
   rw [ht] at h4
   go_wp2_with fail
   all_goals
    go_ret
    rw [HN.out]
    refine ⟨⟨_, rfl, ⟨_, _, rfl, by simp, fun _ => ⟨_, 0, rfl, by simp, fun j u hu => ?_⟩⟩, fun b o n c h => ?_⟩, ?_⟩
    · rw [Nat.zero_add]
      exact cell_new' (by simp) (by simpa [grC, grL] using hu)
    · have := HSZ.out
      simp at h
      omega
    · first | exact (hb2.drew.alloc hb2.drew.size _) | exact (hb2.alloc hb2.size _) | exact (hb2.alloc hb2.size _).drew
  | false =>
   have HN : Hid (plsL p = [(p.ag, p.aa)]) := Lib.hid (by unfold plsL; rw [hn, ht]; rfl)
   rw [ht] at h4
   go_wp2_with fail
   all_goals
    go_ret
    rw [HN.out]
    refine ⟨⟨_, rfl, ⟨_, _, rfl, by simp, fun _ => ⟨_, 0, rfl, by simp, fun j u hu => ?_⟩⟩, fun b o n c h => ?_⟩, ?_⟩
    · rw [Nat.zero_add]
      exact cell_new' (by simp) (by simpa [grC, grL] using hu)
    · have := HSZ.out
      simp at h
      omega
    · first | exact (hb2.drew.alloc hb2.drew.size _) | exact (hb2.alloc hb2.size _) | exact (hb2.alloc hb2.size _).drew
theorem look_step {gs : List (Int × Int)} {secs : Int} {q : PtrD} {R : PlX → List (List UInt8)} {L : List PlX} {k : Nat} {pl : PlX} {all : Bool} (h : L[k]? = some pl) :
 lookFrom gs secs q R (L.drop k) k all = match tryAt gs secs q (R pl) pl with
  | some x => (⟨x.2, k, x.1, 0⟩, 0)
  | none => lookFrom gs secs q R (L.drop (k + 1)) (k + 1) (all && !hasE (R pl)) := by
 have hk := (List.getElem?_eq_some_iff.1 h).1
 rw [List.drop_eq_getElem_cons hk, show L[k] = pl from (List.getElem?_eq_some_iff.1 h).2]
 conv => lhs; unfold lookFrom
 cases tryAt gs secs q (R pl) pl <;> rfl
theorem look_end {gs : List (Int × Int)} {secs : Int} {q : PtrD} {R : PlX → List (List UInt8)} {L : List PlX} {all : Bool} : lookFrom gs secs q R (L.drop L.length) L.length all = (came0, if all then 4 else 6) := by
 rw [List.drop_length]
 conv => lhs; unfold lookFrom
theorem grC_get {l : List (Int × Int)} {k : Nat} {x : Int × Int} (h : l[k]? = some x) : (grC l)[k * 2]? = some (.int .i64 x.1) ∧ (grC l)[k * 2 + 1]? = some (.int .i64 x.2) :=
 ⟨flat_at' grL 2 (fun _ => rfl) l k x h 0 (by omega), flat_at' grL 2 (fun _ => rfl) l k x h 1 (by omega)⟩
set_option maxRecDepth 20000 in
set_option maxHeartbeats 4000000 in
theorem look_any {w : World} {S : Nat → Nat → Prop} {U : Nat → Prop} {y : VX} {aw : List Bool} {ds : List DevD} (h : VdIn w S U y aw ds) (few : y.bd.length ≤ 1000) {N : Nat} (ok : DsOk N y.secs ds) (q : PtrD) :
 Calls Tryz.prog 11 #[y.val, .agg #[.int .i64 q.ag, .int .i64 q.aa, .int .i64 q.bg, .int .i64 q.ba, .bool q.two, .int .i64 q.size, .int .i64 q.level, .int .i64 q.birth, .int .u64 q.s0, .int .u64 q.s1, .int .u64 q.s2, .int .u64 q.s3]] w fun e w' =>
  e = .returned (.tuple #[.agg (lookV y.gs y.secs q (rawP y.gs y.secs q.size aw ds)).1.cells, .int .i64 (lookV y.gs y.secs q (rawP y.gs y.secs q.size aw ds)).2]) ∧ Below w.heap.size w w' := by
 obtain ⟨c, er, hlv⟩ : ∃ c er, lookV y.gs y.secs q (rawP y.gs y.secs q.size aw ds) = (c, er) := ⟨_, _, rfl⟩
 rw [hlv]
 have HLW := Lib.hid hlv
 clear hlv
 obtain ⟨w2, hw2⟩ : ∃ z, ((w.alloc (.cells y.cells 37)).alloc (.cells #[.int .i64 q.ag, .int .i64 q.aa, .int .i64 q.bg, .int .i64 q.ba, .bool q.two, .int .i64 q.size, .int .i64 q.level, .int .i64 q.birth, .int .u64 q.s0, .int .u64 q.s1, .int .u64 q.s2, .int .u64 q.s3] 31)).alloc (.cells #[str [], .int .i64 0, .int .i64 0, .int .i64 0] 45) = z := ⟨_, rfl⟩
 have B1 : Blk w2 w.heap.size 37 y.cells := by rw [← hw2]; exact ((Blk.new _ _ _).alloc _).alloc _
 have B2 : Blk w2 (w.heap.size + 1) 31 #[.int .i64 q.ag, .int .i64 q.aa, .int .i64 q.bg, .int .i64 q.ba, .bool q.two, .int .i64 q.size, .int .i64 q.level, .int .i64 q.birth, .int .u64 q.s0, .int .u64 q.s1, .int .u64 q.s2, .int .u64 q.s3] := by rw [← hw2]; exact (Blk.new2 _ _ _ _).alloc _
 have B3 : Blk w2 (w.heap.size + 1 + 1) 45 #[str [], .int .i64 0, .int .i64 0, .int .i64 0] := by rw [← hw2]; have := Blk.new2 (w.alloc (.cells y.cells 37)) (.cells #[.int .i64 q.ag, .int .i64 q.aa, .int .i64 q.bg, .int .i64 q.ba, .bool q.two, .int .i64 q.size, .int .i64 q.level, .int .i64 q.birth, .int .u64 q.s0, .int .u64 q.s1, .int .u64 q.s2, .int .u64 q.s3] 31) 45 #[str [], .int .i64 0, .int .i64 0, .int .i64 0]; rw [World.size_alloc] at this; exact this
 have D2 : Below w.heap.size w w2 := by rw [← hw2]; exact keep_alloc (keep_alloc (keep_alloc (Below.refl _ _) _) _) _
 have HR := Lib.hid (vright_any (h.below D2) few)
 have HPR := Lib.hid (fun W (hW : Below w2.heap.size w2 W) => pright_any (some ⟨y.gb, 0, none⟩) y.m y.cc y.gs y.secs q W ((h.below D2).geo.below hW (Nat.le_refl _)))
 have HB := Lib.hid (And.intro (And.intro B1 B2) B3)
 have HH := Lib.hid (And.intro h ok)
 have HD2 := Lib.hid D2
 have HW2 := Lib.hid hw2
 clear h ok B1 B2 B3 D2 hw2
 have hB := HB.out
 rw [← HW2.out] at hB
 have x0 := (hB.1).1.at_ (i := 0) (v := .slice (some ⟨y.gb, 0, none⟩) y.m y.cc) rfl
 have x1 := (hB.1).1.at_ (i := 1) (v := .int .i64 y.secs) rfl
 have x2 := (hB.1).1.at_ (i := 2) (v := .slice (some ⟨y.lb, 0, none⟩) y.bd.length y.lc) rfl
 have x3 := (hB.1).1.at_ (i := 3) (v := .slice (some ⟨y.ab, 0, none⟩) y.bd.length y.bd.length) rfl
 have p0 := (hB.1).2.at_ (i := 0) (v := .int .i64 q.ag) rfl
 have p1 := (hB.1).2.at_ (i := 1) (v := .int .i64 q.aa) rfl
 have p2 := (hB.1).2.at_ (i := 2) (v := .int .i64 q.bg) rfl
 have p3 := (hB.1).2.at_ (i := 3) (v := .int .i64 q.ba) rfl
 have p4 := (hB.1).2.at_ (i := 4) (v := .bool q.two) rfl
 have p5 := (hB.1).2.at_ (i := 5) (v := .int .i64 q.size) rfl
 have p6 := (hB.1).2.at_ (i := 6) (v := .int .i64 q.level) rfl
 have p7 := (hB.1).2.at_ (i := 7) (v := .int .i64 q.birth) rfl
 have p8 := (hB.1).2.at_ (i := 8) (v := .int .u64 q.s0) rfl
 have p9 := (hB.1).2.at_ (i := 9) (v := .int .u64 q.s1) rfl
 have p10 := (hB.1).2.at_ (i := 10) (v := .int .u64 q.s2) rfl
 have p11 := (hB.1).2.at_ (i := 11) (v := .int .u64 q.s3) rfl
 clear hB
 go_enter Tryz.func11, Tryz.ntmps11
 go_wp2_with fail
 rw [HW2.out]
 refine HR.out.mono ?_
 rintro e w3 ⟨rfl, hb3⟩
 have HB3 := Lib.hid (And.intro (And.intro (HB.out.1.1.below hb3 HB.out.1.1.lt) (HB.out.1.2.below hb3 HB.out.1.2.lt)) (HB.out.2.below hb3 HB.out.2.lt))
 have HPR3 := Lib.hid (HPR.out w3 hb3)
 have HD3 := Lib.hid (keep_below hb3 HD2.out)
 clear x0 x1 x2 x3 p0 p1 p2 p3 p4 p5 p6 p7 p8 p9 p10 p11 hb3
 have x0 := (HB3.out.1).1.at_ (i := 0) (v := .slice (some ⟨y.gb, 0, none⟩) y.m y.cc) rfl
 have x1 := (HB3.out.1).1.at_ (i := 1) (v := .int .i64 y.secs) rfl
 have x2 := (HB3.out.1).1.at_ (i := 2) (v := .slice (some ⟨y.lb, 0, none⟩) y.bd.length y.lc) rfl
 have x3 := (HB3.out.1).1.at_ (i := 3) (v := .slice (some ⟨y.ab, 0, none⟩) y.bd.length y.bd.length) rfl
 have p0 := (HB3.out.1).2.at_ (i := 0) (v := .int .i64 q.ag) rfl
 have p1 := (HB3.out.1).2.at_ (i := 1) (v := .int .i64 q.aa) rfl
 have p2 := (HB3.out.1).2.at_ (i := 2) (v := .int .i64 q.bg) rfl
 have p3 := (HB3.out.1).2.at_ (i := 3) (v := .int .i64 q.ba) rfl
 have p4 := (HB3.out.1).2.at_ (i := 4) (v := .bool q.two) rfl
 have p5 := (HB3.out.1).2.at_ (i := 5) (v := .int .i64 q.size) rfl
 have p6 := (HB3.out.1).2.at_ (i := 6) (v := .int .i64 q.level) rfl
 have p7 := (HB3.out.1).2.at_ (i := 7) (v := .int .i64 q.birth) rfl
 have p8 := (HB3.out.1).2.at_ (i := 8) (v := .int .u64 q.s0) rfl
 have p9 := (HB3.out.1).2.at_ (i := 9) (v := .int .u64 q.s1) rfl
 have p10 := (HB3.out.1).2.at_ (i := 10) (v := .int .u64 q.s2) rfl
 have p11 := (HB3.out.1).2.at_ (i := 11) (v := .int .u64 q.s3) rfl
 obtain ⟨rb, hrb⟩ : ∃ rb, rightB y.gs y.secs q = rb := ⟨_, rfl⟩
 rw [hrb] at HPR3
 dsimp only [PtrD.cells] at HPR3
 have HRB := Lib.hid hrb
 clear hrb
 go_wp2_with fail
 refine HPR3.out.mono ?_
 rintro e w4 ⟨rfl, hb4⟩
 have HB4 := Lib.hid (And.intro (And.intro (HB3.out.1.1.below hb4 HB3.out.1.1.lt) (HB3.out.1.2.below hb4 HB3.out.1.2.lt)) (HB3.out.2.below hb4 HB3.out.2.lt))
 have HD4 := Lib.hid (keep_below hb4 HD3.out)
 clear x0 x1 x2 x3 p0 p1 p2 p3 p4 p5 p6 p7 p8 p9 p10 p11 hb4
 cases rb with
 | false =>
  obtain ⟨rfl, rfl⟩ : came0 = c ∧ 1 = er := by
   have := HLW.out
   unfold lookV at this
   rw [HRB.out] at this
   exact ⟨congrArg Prod.fst this, congrArg Prod.snd this⟩
  have z0 := (HB4.out.2).at_ (i := 0) (v := str []) rfl
  have z1 := (HB4.out.2).at_ (i := 1) (v := .int .i64 0) rfl
  have z2 := (HB4.out.2).at_ (i := 2) (v := .int .i64 0) rfl
  have z3 := (HB4.out.2).at_ (i := 3) (v := .int .i64 0) rfl
  have g0 := (HB4.out.2).fr 0
  have g1 := (HB4.out.2).fr 1
  have g2 := (HB4.out.2).fr 2
  have g3 := (HB4.out.2).fr 3
  go_wp2_with fail
  have hP := ((((HB4.out.2).put 0 (str [])).put 1 (.int .i64 0)).put 2 (.int .i64 0)).put 3 (.int .i64 0)
  have e0 := hP.at_ (i := 0) (v := str []) rfl
  have e1 := hP.at_ (i := 1) (v := .int .i64 0) rfl
  have e2 := hP.at_ (i := 2) (v := .int .i64 0) rfl
  have e3 := hP.at_ (i := 3) (v := .int .i64 0) rfl
  refine bodyPost_ret (v := .tuple #[.agg #[str [], .int .i64 0, .int .i64 0, .int .i64 0], .int .i64 1]) (by simp [results, Tryz.f11, go_sem, e0, e1, e2, e3]) rfl ⟨rfl, below_set (below_set (below_set (below_set HD4.out _ _ _ (by omega)) _ _ _ (by omega)) _ _ _ (by omega)) _ _ _ (by omega)⟩
 | true =>
  obtain ⟨L, hL⟩ : ∃ L, plsL q = L := ⟨_, rfl⟩
  have hm : ∀ pl ∈ L, cMay y.gs y.secs pl.1 pl.2 q.size = true := by rw [← hL]; exact pls_may HRB.out
  have hl2 : L.length ≤ 2 := by rw [← hL]; exact plsL_len q
  have HLV : Hid (lookFrom y.gs y.secs q (rawP y.gs y.secs q.size aw ds) L 0 true = (c, er)) := Lib.hid (by have := HLW.out; unfold lookV at this; rwa [if_pos HRB.out, hL] at this)
  have HPL := Lib.hid (places2_any q w4)
  rw [hL] at HPL
  have HM := Lib.hid (And.intro hm hl2)
  clear hm hl2 hL
  have x0 := (HB4.out.1).1.at_ (i := 0) (v := .slice (some ⟨y.gb, 0, none⟩) y.m y.cc) rfl
  have x1 := (HB4.out.1).1.at_ (i := 1) (v := .int .i64 y.secs) rfl
  have x2 := (HB4.out.1).1.at_ (i := 2) (v := .slice (some ⟨y.lb, 0, none⟩) y.bd.length y.lc) rfl
  have x3 := (HB4.out.1).1.at_ (i := 3) (v := .slice (some ⟨y.ab, 0, none⟩) y.bd.length y.bd.length) rfl
  have p0 := (HB4.out.1).2.at_ (i := 0) (v := .int .i64 q.ag) rfl
  have p1 := (HB4.out.1).2.at_ (i := 1) (v := .int .i64 q.aa) rfl
  have p2 := (HB4.out.1).2.at_ (i := 2) (v := .int .i64 q.bg) rfl
  have p3 := (HB4.out.1).2.at_ (i := 3) (v := .int .i64 q.ba) rfl
  have p4 := (HB4.out.1).2.at_ (i := 4) (v := .bool q.two) rfl
  have p5 := (HB4.out.1).2.at_ (i := 5) (v := .int .i64 q.size) rfl
  have p6 := (HB4.out.1).2.at_ (i := 6) (v := .int .i64 q.level) rfl
  have p7 := (HB4.out.1).2.at_ (i := 7) (v := .int .i64 q.birth) rfl
  have p8 := (HB4.out.1).2.at_ (i := 8) (v := .int .u64 q.s0) rfl
  have p9 := (HB4.out.1).2.at_ (i := 9) (v := .int .u64 q.s1) rfl
  have p10 := (HB4.out.1).2.at_ (i := 10) (v := .int .u64 q.s2) rfl
  have p11 := (HB4.out.1).2.at_ (i := 11) (v := .int .u64 q.s3) rfl
  go_wp2_with fail
  refine HPL.out.mono ?_
  rintro e w5 ⟨⟨pv, rfl, hsl, hnew⟩, hb5⟩
  obtain ⟨Ap, cp, rfl⟩ := hsl.form
  have HB5 := Lib.hid (And.intro (And.intro (HB4.out.1.1.below hb5 HB4.out.1.1.lt) (HB4.out.1.2.below hb5 HB4.out.1.2.lt)) (HB4.out.2.below hb5 HB4.out.2.lt))
  have HD5 := Lib.hid (keep_below hb5 HD4.out)
  have HS5 := Lib.hid hsl
  clear x0 x1 x2 x3 p0 p1 p2 p3 p4 p5 p6 p7 p8 p9 p10 p11 hb5 hsl hnew
  obtain ⟨R, hR⟩ : ∃ R, rawP y.gs y.secs q.size aw ds = R := ⟨_, rfl⟩
  rw [hR] at HLV
  have HRR := Lib.hid hR
  clear hR
  go_wp2_with fail
  go_loopw [6, 7, 8, 9, 10, 11, 26] (fun all _ _ _ _ _ t wr => ∃ (k : Nat) (a : Bool), k ≤ L.length ∧ all = .bool a ∧ t = .int .i64 k ∧ lookFrom y.gs y.secs q R (L.drop k) k a = (c, er) ∧ Below w5.heap.size w5 wr) (fun _ _ _ _ _ _ t _ => L.length - (RowKit.intOf t).toNat)
  case atStart => exact ⟨0, true, Nat.zero_le _, rfl, rfl, HLV.out, Below.refl _ _⟩
  case round =>
   obtain ⟨k, a, hk, rfl, rfl, hlk, hb⟩ := hrel
   have HBB := Lib.hid hb
   by_cases hlt : k < L.length
   · obtain ⟨pl, hpl⟩ : ∃ pl, L[k]? = some pl := ⟨_, List.getElem?_eq_getElem hlt⟩
     rw [look_step hpl] at hlk
     have hl2 := HM.out.2
     have hmp := HM.out.1 pl (List.mem_of_getElem? hpl)
     obtain ⟨hc0, hc1⟩ := grC_get hpl
     obtain ⟨bp, op, rfl, hbp, hcp⟩ := HS5.out.cells (by omega)
     have l0 := keepc (hcp _ _ hc0) hb
     have l1 : wr.cell? ⟨bp, op + k * 2 + 1, none⟩ = some (.int .i64 pl.2) := keepc (hcp _ _ hc1) hb
     obtain ⟨w6, hw6⟩ : ∃ z, wr.alloc (.cells #[.int .i64 pl.1, .int .i64 pl.2] 26) = z := ⟨_, rfl⟩
     have hb6 : Below wr.heap.size wr w6 := by rw [← hw6]; exact keep_alloc (Below.refl _ _) _
     have hN6 : Blk w6 wr.heap.size 26 #[.int .i64 pl.1, .int .i64 pl.2] := by rw [← hw6]; exact Blk.new _ _ _
     have hbb : Below w5.heap.size w5 w6 := keep_below hb6 hb
     have HB6 := Lib.hid (And.intro (And.intro (HB5.out.1.1.below hbb HB5.out.1.1.lt) (HB5.out.1.2.below hbb HB5.out.1.2.lt)) (And.intro (HB5.out.2.below hbb HB5.out.2.lt) hN6))
     have HBB6 := Lib.hid hbb
     have HD6 := Lib.hid (keep_below hbb HD5.out)
     have hat := at_any (HH.out.1.below (keep_below hbb HD5.out)) few HH.out.2 q pl hmp
     rw [HRR.out] at hat
     have hB := HB6.out.1
     have n0 := HB6.out.2.2.at_ (i := 0) (v := .int .i64 pl.1) rfl
     have n1 := HB6.out.2.2.at_ (i := 1) (v := .int .i64 pl.2) rfl
     rw [← hw6] at hB n0 n1
     have x0 := (hB).1.at_ (i := 0) (v := .slice (some ⟨y.gb, 0, none⟩) y.m y.cc) rfl
     have x1 := (hB).1.at_ (i := 1) (v := .int .i64 y.secs) rfl
     have x2 := (hB).1.at_ (i := 2) (v := .slice (some ⟨y.lb, 0, none⟩) y.bd.length y.lc) rfl
     have x3 := (hB).1.at_ (i := 3) (v := .slice (some ⟨y.ab, 0, none⟩) y.bd.length y.bd.length) rfl
     have p0 := (hB).2.at_ (i := 0) (v := .int .i64 q.ag) rfl
     have p1 := (hB).2.at_ (i := 1) (v := .int .i64 q.aa) rfl
     have p2 := (hB).2.at_ (i := 2) (v := .int .i64 q.bg) rfl
     have p3 := (hB).2.at_ (i := 3) (v := .int .i64 q.ba) rfl
     have p4 := (hB).2.at_ (i := 4) (v := .bool q.two) rfl
     have p5 := (hB).2.at_ (i := 5) (v := .int .i64 q.size) rfl
     have p6 := (hB).2.at_ (i := 6) (v := .int .i64 q.level) rfl
     have p7 := (hB).2.at_ (i := 7) (v := .int .i64 q.birth) rfl
     have p8 := (hB).2.at_ (i := 8) (v := .int .u64 q.s0) rfl
     have p9 := (hB).2.at_ (i := 9) (v := .int .u64 q.s1) rfl
     have p10 := (hB).2.at_ (i := 10) (v := .int .u64 q.s2) rfl
     have p11 := (hB).2.at_ (i := 11) (v := .int .u64 q.s3) rfl
     have HW6 := Lib.hid hw6
     have HLT := Lib.hid hlt
     have hd1 : decide (k < L.length) = true := decide_eq_true hlt
     obtain ⟨E, hE⟩ : ∃ E, hasE (R pl) = E := ⟨_, rfl⟩
     rw [hE] at hlk hat
     clear hB hbb hb6 hN6 hw6 hc0 hc1 hcp hbp hmp hb hpl hlt hE
     cases ht : tryAt y.gs y.secs q (R pl) pl with
     | some x =>
      rw [ht] at hat hlk
      dsimp only [atV] at hat
      obtain ⟨rfl, rfl⟩ : (⟨x.2, k, x.1, 0⟩ : CameD) = c ∧ 0 = er := ⟨congrArg Prod.fst hlk, congrArg Prod.snd hlk⟩
      have HAT := Lib.hid hat
      clear hat hlk ht
      go_wp2_with fail
      rw [HW6.out]
      refine HAT.out.mono ?_
      rintro e w7 ⟨rfl, hb7⟩
      have HB7 := Lib.hid (HB6.out.2.1.below hb7 HB6.out.2.1.lt)
      have HD7 := Lib.hid (keep_below hb7 HD6.out)
      clear x0 x1 x2 x3 p0 p1 p2 p3 p4 p5 p6 p7 p8 p9 p10 p11 n0 n1 l0 l1 hb7
      have hZ := HB7.out.alloc (.cells #[str x.2, .int .i64 k, .int .i64 x.1, .int .i64 0] 45)
      have z0 := (hZ).at_ (i := 0) (v := str []) rfl
      have z1 := (hZ).at_ (i := 1) (v := .int .i64 0) rfl
      have z2 := (hZ).at_ (i := 2) (v := .int .i64 0) rfl
      have z3 := (hZ).at_ (i := 3) (v := .int .i64 0) rfl
      have g0 := (hZ).fr 0
      have g1 := (hZ).fr 1
      have g2 := (hZ).fr 2
      have g3 := (hZ).fr 3
      go_wp2_with fail
      have hP := ((((hZ).put 0 (str x.2)).put 1 (.int .i64 k)).put 2 (.int .i64 x.1)).put 3 (.int .i64 0)
      have e0 := hP.at_ (i := 0) (v := str x.2) rfl
      have e1 := hP.at_ (i := 1) (v := .int .i64 k) rfl
      have e2 := hP.at_ (i := 2) (v := .int .i64 x.1) rfl
      have e3 := hP.at_ (i := 3) (v := .int .i64 0) rfl
      refine bodyPost_ret (v := .tuple #[.agg #[str x.2, .int .i64 k, .int .i64 x.1, .int .i64 0], .int .i64 0]) (by simp [results, Tryz.f11, go_sem, e0, e1, e2, e3]) rfl ⟨rfl, below_set (below_set (below_set (below_set (keep_alloc HD7.out _) _ _ _ (by omega)) _ _ _ (by omega)) _ _ _ (by omega)) _ _ _ (by omega)⟩
     | none =>
      rw [ht] at hat hlk
      dsimp only [atV] at hat
      have HAT := Lib.hid hat
      have HLK := Lib.hid hlk
      clear hat hlk ht
      cases a with
      | false =>
       cases E with
       | false =>
        go_wp2_with fail
        rw [HW6.out]
        refine HAT.out.mono ?_
        rintro e w7 ⟨rfl, hb7⟩
        have HB7 := Lib.hid (keep_below hb7 HBB6.out)
        clear x0 x1 x2 x3 p0 p1 p2 p3 p4 p5 p6 p7 p8 p9 p10 p11 n0 n1 l0 l1 hb7
        go_wp2_with fail
        go_roundw
        case rel => exact ⟨k + 1, false, HLT.out, rfl, by go_num, HLK.out, keep_alloc HB7.out _⟩
        case measure => have := HLT.out; simp [RowKit.intOf]; omega
       | true =>
        go_wp2_with fail
        rw [HW6.out]
        refine HAT.out.mono ?_
        rintro e w7 ⟨rfl, hb7⟩
        have HB7 := Lib.hid (keep_below hb7 HBB6.out)
        clear x0 x1 x2 x3 p0 p1 p2 p3 p4 p5 p6 p7 p8 p9 p10 p11 n0 n1 l0 l1 hb7
        go_wp2_with fail
        go_roundw
        case rel => exact ⟨k + 1, false, HLT.out, rfl, by go_num, HLK.out, keep_alloc HB7.out _⟩
        case measure => have := HLT.out; simp [RowKit.intOf]; omega
      | true =>
       cases E with
       | false =>
        go_wp2_with fail
        rw [HW6.out]
        refine HAT.out.mono ?_
        rintro e w7 ⟨rfl, hb7⟩
        have HB7 := Lib.hid (keep_below hb7 HBB6.out)
        clear x0 x1 x2 x3 p0 p1 p2 p3 p4 p5 p6 p7 p8 p9 p10 p11 n0 n1 l0 l1 hb7
        go_wp2_with fail
        go_roundw
        case rel => exact ⟨k + 1, true, HLT.out, rfl, by go_num, HLK.out, keep_alloc HB7.out _⟩
        case measure => have := HLT.out; simp [RowKit.intOf]; omega
       | true =>
        go_wp2_with fail
        rw [HW6.out]
        refine HAT.out.mono ?_
        rintro e w7 ⟨rfl, hb7⟩
        have HB7 := Lib.hid (keep_below hb7 HBB6.out)
        clear x0 x1 x2 x3 p0 p1 p2 p3 p4 p5 p6 p7 p8 p9 p10 p11 n0 n1 l0 l1 hb7
        go_wp2_with fail
        go_roundw
        case rel => exact ⟨k + 1, false, HLT.out, rfl, by go_num, HLK.out, keep_alloc HB7.out _⟩
        case measure => have := HLT.out; simp [RowKit.intOf]; omega
   · obtain rfl : k = L.length := by omega
     rw [look_end] at hlk
     have hd1 : decide (L.length < L.length) = false := decide_eq_false (by omega)
     obtain ⟨rfl, rfl⟩ : came0 = c ∧ (if a = true then 4 else 6) = er := ⟨congrArg Prod.fst hlk, congrArg Prod.snd hlk⟩
     have HBZ := Lib.hid (HB5.out.2.below hb HB5.out.2.lt)
     have HDZ := Lib.hid (keep_below hb HD5.out)
     clear hlk hb
     have z0 := (HBZ.out).at_ (i := 0) (v := str []) rfl
     have z1 := (HBZ.out).at_ (i := 1) (v := .int .i64 0) rfl
     have z2 := (HBZ.out).at_ (i := 2) (v := .int .i64 0) rfl
     have z3 := (HBZ.out).at_ (i := 3) (v := .int .i64 0) rfl
     have g0 := (HBZ.out).fr 0
     have g1 := (HBZ.out).fr 1
     have g2 := (HBZ.out).fr 2
     have g3 := (HBZ.out).fr 3
     cases a with
     | true =>
      go_wp2_with fail
      have hP := ((((HBZ.out).put 0 (str [])).put 1 (.int .i64 0)).put 2 (.int .i64 0)).put 3 (.int .i64 0)
      have e0 := hP.at_ (i := 0) (v := str []) rfl
      have e1 := hP.at_ (i := 1) (v := .int .i64 0) rfl
      have e2 := hP.at_ (i := 2) (v := .int .i64 0) rfl
      have e3 := hP.at_ (i := 3) (v := .int .i64 0) rfl
      refine bodyPost_ret (v := .tuple #[.agg #[str [], .int .i64 0, .int .i64 0, .int .i64 0], .int .i64 4]) (by simp [results, Tryz.f11, go_sem, e0, e1, e2, e3]) rfl ⟨rfl, below_set (below_set (below_set (below_set HDZ.out _ _ _ (by omega)) _ _ _ (by omega)) _ _ _ (by omega)) _ _ _ (by omega)⟩
     | false =>
      go_wp2_with fail
      have hP := ((((HBZ.out).put 0 (str [])).put 1 (.int .i64 0)).put 2 (.int .i64 0)).put 3 (.int .i64 0)
      have e0 := hP.at_ (i := 0) (v := str []) rfl
      have e1 := hP.at_ (i := 1) (v := .int .i64 0) rfl
      have e2 := hP.at_ (i := 2) (v := .int .i64 0) rfl
      have e3 := hP.at_ (i := 3) (v := .int .i64 0) rfl
      refine bodyPost_ret (v := .tuple #[.agg #[str [], .int .i64 0, .int .i64 0, .int .i64 0], .int .i64 6]) (by simp [results, Tryz.f11, go_sem, e0, e1, e2, e3]) rfl ⟨rfl, below_set (below_set (below_set (below_set HDZ.out _ _ _ (by omega)) _ _ _ (by omega)) _ _ _ (by omega)) _ _ _ (by omega)⟩
end Go.Proofs.YtbhkbcpljakmjaaGreat

namespace Go.Proofs.YtbhkbcpljakmjaaGreat
set_option linter.unusedVariables false
set_option linter.unusedSimpArgs false
open Go.RowKit
theorem take_snoc {α : Type} {l : List α} {k : Nat} {x : α} (h : l[k]? = some x) : l.take (k + 1) = l.take k ++ [x] := by rw [List.take_add_one, h]; rfl
set_option maxRecDepth 20000 in
set_option maxHeartbeats 2000000 in
theorem vmend_any {w : World} {S : Nat → Nat → Prop} {U : Nat → Prop} {y : VX} {aw : List Bool} {ds : List DevD} (h : VdIn w S U y aw ds) {N : Nat} (ok : DsOk N y.secs ds) (hN : N ≤ 900000) (few : y.bd.length ≤ 1000) (pg pa : Int) (s : List UInt8) (hl : s.length ≤ 140737488355328)
 (hz : encE y.gs y.secs pg pa s = 0) {lv : Value} {l : List Nat} (hlv : SlU w U lv l.length (ixC l)) (hll : ∀ i ∈ l, i < (ofList y.gs y.secs pg pa (secN s)).length) (hl64 : l.length ≤ 64) :
 Calls Tryz.prog 65 #[y.val, .agg #[.int .i64 pg, .int .i64 pa], str s, lv] w fun e w' => e = .returned (.int .i64 (mendN (hereD aw ds) (ofList y.gs y.secs pg pa (secN s)) l : Nat)) ∧
  (∃ S', VdIn w' S' U y aw (mendTo aw (ofList y.gs y.secs pg pa (secN s)) (encL y.gs y.secs pg pa s) ds l)) ∧ Stays U w w' := by
 obtain ⟨Al, cl, rfl⟩ := hlv.form
 obtain ⟨w1, hw1⟩ : ∃ z, (w.alloc (.cells y.cells 37)).alloc (.cells #[.int .i64 pg, .int .i64 pa] 26) = z := ⟨_, rfl⟩
 have B1 : Blk w1 w.heap.size 37 y.cells := by rw [← hw1]; exact (Blk.new _ _ _).alloc _
 have B2 : Blk w1 (w.heap.size + 1) 26 #[.int .i64 pg, .int .i64 pa] := by rw [← hw1]; exact Blk.new2 _ _ _ _
 have D1 : Below w.heap.size w w1 := by rw [← hw1]; exact keep_alloc (keep_alloc (Below.refl _ _) _) _
 have HR := Lib.hid (vright_any (h.below D1) few)
 have HE := Lib.hid (fun W (hW : Below w1.heap.size w1 W) => encode_any (some ⟨y.gb, 0, none⟩) y.m y.cc y.gs y.secs pg pa s ((h.below D1).geo.below hW (Nat.le_refl _)) hl)
 have HO := Lib.hid (fun W (hW : Below w1.heap.size w1 W) => of_any (some ⟨y.gb, 0, none⟩) y.m y.cc y.gs y.secs pg pa (secN s) W ((h.below D1).geo.below hW (Nat.le_refl _)))
 rw [hz] at HE
 obtain ⟨z1, z2, z3⟩ := encE_zero hz
 rw [ofErr_good z2] at HO
 have HZ := Lib.hid (And.intro hz (And.intro z1 (And.intro z2 z3)))
 have HLV := Lib.hid (And.intro hlv (And.intro hll hl64))
 have HH := Lib.hid h
 have HOK := Lib.hid ok
 have HB1 := Lib.hid B1
 have HB2 := Lib.hid B2
 have HD1 := Lib.hid D1
 have HW1 := Lib.hid hw1
 have hq : Int.tdiv (s.length : Int) 64 = (secN s : Int) := rfl
 have hs4 : secN s ≤ 4 := by
  unfold secOk at z1
  simp only [Bool.and_eq_true, decide_eq_true_eq] at z1
  unfold secN
  omega
 clear h ok B1 B2 D1 hw1 hl hz z1 z2 z3 hlv hll
 go_enter Tryz.func65, Tryz.ntmps65
 go_wp2_with fail
 rw [HW1.out]
 clear HW1
 refine HR.out.mono ?_
 rintro e w2 ⟨rfl, hb2⟩
 have HB12 := Lib.hid hb2
 have g0 := keep_cell hb2 (HB1.out.at_ (i := 0) (v := .slice (some ⟨y.gb, 0, none⟩) y.m y.cc) rfl) HB1.out.lt
 have g1 := keep_cell hb2 (HB1.out.at_ (i := 1) (v := .int .i64 y.secs) rfl) HB1.out.lt
 have p0 := keep_cell hb2 (HB2.out.at_ (i := 0) (v := .int .i64 pg) rfl) HB2.out.lt
 have p1 := keep_cell hb2 (HB2.out.at_ (i := 1) (v := .int .i64 pa) rfl) HB2.out.lt
 clear hb2
 go_wp2_with fail
 refine (HE.out _ HB12.out).mono ?_
 rintro e w3 ⟨tv, rfl, hT, hb3, hnew⟩
 have HB13 := Lib.hid (keep_below hb3 HB12.out)
 have HTV := Lib.hid (And.intro hT (And.intro hnew hb3.size))
 clear g0 g1 p0 p1
 obtain ⟨ATv, cTv, rfl⟩ := hT.form
 have g0 := keep_cell HB13.out (HB1.out.at_ (i := 0) (v := .slice (some ⟨y.gb, 0, none⟩) y.m y.cc) rfl) HB1.out.lt
 have g1 := keep_cell HB13.out (HB1.out.at_ (i := 1) (v := .int .i64 y.secs) rfl) HB1.out.lt
 have p0 := keep_cell HB13.out (HB2.out.at_ (i := 0) (v := .int .i64 pg) rfl) HB2.out.lt
 have p1 := keep_cell HB13.out (HB2.out.at_ (i := 1) (v := .int .i64 pa) rfl) HB2.out.lt
 clear hb3 hnew hT
 go_wp2_with fail
 refine (HO.out _ HB13.out).mono ?_
 rintro e w4 ⟨cv, rfl, hcol, hb4⟩
 obtain ⟨L, hL⟩ : ∃ L, L = ofList y.gs y.secs pg pa (secN s) := ⟨_, rfl⟩
 obtain ⟨T, hT⟩ : ∃ T, T = encL y.gs y.secs pg pa s := ⟨_, rfl⟩
 rw [← hL] at hcol HLV
 obtain ⟨Ac, ccap, rfl⟩ := (slAt_own hcol).form
 have hL64 : L.length ≤ 64 := by rw [hL]; exact ofList_le _ _ _ _ _
 have hTL : T.length = L.length := by rw [hT, encL_len, hL]
 have HB14 := Lib.hid (keep_below hb4 HB13.out)
 have HD4 := Lib.hid (keep_below HB14.out HD1.out)
 obtain ⟨U2, hU2⟩ : ∃ U2, U2 = more U w w4 := ⟨_, rfl⟩
 have hV4 : VdIn w4 S U2 y aw ds := by rw [hU2]; exact HH.out.more HD4.out
 have HUL := Lib.hid hV4.us
 have H : Hid (SlU w4 U2 (.slice Ac L.length ccap) L.length (colsCells L)) := Lib.hid (slU_own hcol (fun b h1 h2 => by rw [hU2]; exact .inr ⟨by have := HD1.out.size; have := HB13.out.size; omega, h2⟩))
 have HTX : Hid (SlU w4 U2 (.slice ATv L.length cTv) L.length (strC T)) := Lib.hid (by
  obtain ⟨t1, t2, t3⟩ := HTV.out
  rw [HZ.out.2.2.2, ← hT, hTL] at t1 t2
  exact slU_new (t1.below hb4) t2 (fun b h1 h2 => by rw [hU2]; exact .inr ⟨by have := HD1.out.size; have := HB12.out.size; omega, h2⟩))
 have HLX : Hid (SlU w4 U2 (.slice Al l.length cl) l.length (ixC l)) := Lib.hid ((HLV.out.1.stays (stays_below HD4.out) HH.out.us).mono (fun b hb => by rw [hU2]; exact .inl hb))
 have hel : (encS y.gs y.secs pg pa s).length = L.length := by rw [HZ.out.2.2.2, ← hT, hTL]
 rw [hel]
 have HUB : Hid (U2 w.heap.size ∧ (∀ b, U b → U2 b)) := Lib.hid (by rw [hU2]; exact ⟨.inr ⟨Nat.le_refl _, Nat.lt_of_lt_of_le HB1.out.lt HB14.out.size⟩, fun b hb => .inl hb⟩)
 have HXB : Hid (Blk w4 w.heap.size 37 y.cells) := Lib.hid (HB1.out.below HB14.out HB1.out.lt)
 have HCF : Hid (∀ (k : Nat) (x : Col), L[k]? = some x → (∃ i : Nat, x.1 = i ∧ i < y.bd.length) ∧ 0 ≤ x.2.1 ∧ x.2.1 < y.secs ∧ ∃ t, T[k]? = some t ∧ t.length = 64) := Lib.hid (fun k x hx => by
  have hz2 := HZ.out.2.2.1
  have hLc : ofList y.gs y.secs pg pa (secN s) = colsOf y.gs y.secs pg pa (secN s) := by unfold ofList; rw [if_pos hz2]
  rw [hL, hLc] at hx
  obtain ⟨c1, c2, c3, c4⟩ := (apart_pure hz2 hz2).1 k x hx
  have hnd : gDevs y.gs y.secs = y.bd.length := by unfold gDevs; rw [if_pos HH.out.right]; exact HH.out.nd
  refine ⟨⟨x.1.toNat, by omega, by omega⟩, by omega, c4, ?_⟩
  have hk : k < T.length := by rw [hTL, hL, hLc]; exact (List.getElem?_eq_some_iff.1 hx).1
  refine ⟨T[k], List.getElem?_eq_getElem hk, ?_⟩
  exact encL_64 hz2 _ (by rw [← hT]; exact List.getElem_mem hk))
 have HLT0 := Lib.hid (And.intro hL (And.intro hT hTL))
 have HV4 := Lib.hid hV4
 clear hcol hb4 hU2 hV4 hel hL hT hTL g0 g1 p0 p1 HO HE HR HTV hq hs4
 go_wp2_with fail
 go_loopw [13, 15, 41] (fun n _ t wr => ∃ (k : Nat) (S' : Nat → Nat → Prop), k ≤ l.length ∧ t = .int .i64 k ∧ n = .int .i64 (mendN (hereD aw ds) L (l.take k) : Nat) ∧ VdIn wr S' U2 y aw (mendTo aw L T ds (l.take k)) ∧ Stays U2 w4 wr) (fun _ _ t _ => l.length - (RowKit.intOf t).toNat)
 case atStart => exact ⟨0, S, Nat.zero_le _, rfl, rfl, HV4.out, stays_refl _⟩
 case round =>
  clear HV4
  obtain ⟨k, S', hk, rfl, rfl, hV, hst⟩ := hrel
  have HV := Lib.hid hV
  have HST := Lib.hid hst
  have HEQ := Lib.hid (hst.eq HUL.out)
  obtain ⟨n, hn⟩ : ∃ n, mendN (hereD aw ds) L (l.take k) = n := ⟨_, rfl⟩
  have hn64 : n ≤ 64 := by rw [← hn]; have := mendN_le (hereD aw ds) L (l.take k); rw [List.length_take] at this; omega
  rw [hn]
  have HN := Lib.hid hn
  clear hV hst hn
  by_cases hlt : k < l.length
  · obtain ⟨j, hj⟩ : ∃ j, l[k]? = some j := ⟨_, List.getElem?_eq_getElem hlt⟩
    have hjL := HLV.out.2.1 j (List.mem_of_getElem? hj)
    obtain ⟨x, hx⟩ : ∃ x, L[j]? = some x := ⟨_, List.getElem?_eq_getElem hjL⟩
    obtain ⟨⟨i, hxi, hib⟩, hx0, hx1, t, ht, ht64⟩ := HCF.out j x hx
    have hxd : L.getD j (0, 0, false, 0) = x := by rw [List.getD_eq_getElem?_getD, hx]; rfl
    have htd : T.getD j [] = t := by rw [List.getD_eq_getElem?_getD, ht]; rfl
    have hts := take_snoc hj
    have hmt : mendTo aw L T ds (l.take (k + 1)) = putD aw (mendTo aw L T ds (l.take k)) x t := by rw [hts, mendTo_snoc, hxd, htd]
    have hmn : mendN (hereD aw ds) L (l.take (k + 1)) = n + if hereD aw ds i then 1 else 0 := by rw [hts, mendN_snoc, HN.out, hxd, hxi]; rfl
    obtain ⟨bl, ol, rfl, hbl, hcl⟩ := HLX.out.cells (by omega)
    obtain ⟨bc, oc, rfl, hbc, hcc⟩ := H.out.cells (by omega)
    obtain ⟨tb, tof, rfl, htb, htc⟩ := HTX.out.cells (by omega)
    have l0 : wr.cell? ⟨bl, ol + k, none⟩ = some (.int .i64 j) := (cell_same' (HEQ.out bl hbl)).trans (hcl k _ (ixC_at hj))
    obtain ⟨q0, q1, q2, q3⟩ := colsCells_at hx
    obtain ⟨dk, hdk⟩ : ∃ dk, (mendTo aw L T ds (l.take k))[i]? = some dk := ⟨_, List.getElem?_eq_getElem (by rw [HV.out.n2]; exact hib)⟩
    have hput := fun (W : World) (hW : VdIn W S' U2 y aw (mendTo aw L T ds (l.take k))) => putc_any hW (mendTo_ok (l.take k) ds HOK.out) (by have := List.length_take (i := k) (l := l); omega) hxi hdk hx0 hx1 ht64
    have hhr : (!(aw.getD i false) && !dk.lost) = hereD aw ds i := by
     rw [← mendTo_hereD (aw := aw) (L := L) (T := T) i (l.take k) ds]
     unfold hereD
     rw [hdk]
    rw [hhr, ← hmt] at hput
    have HP := Lib.hid (hput wr.drew (HV.out.same (w' := wr.drew) (Nat.le_refl _) (fun _ _ => rfl) (fun _ _ _ => rfl)))
    obtain ⟨S0, hS0⟩ : ∃ S0 : World → Prop, S0 = fun W => ∀ g, (g = w.heap.size ∨ g = bc ∨ g = tb) → W.heap[g]? = wr.heap[g]? := ⟨_, rfl⟩
    have hS1 : ∀ W, Stays U2 wr W → S0 W := fun W hW => by
     rw [hS0]
     intro g hg
     have hU : U2 g := by
      rcases hg with rfl | rfl | rfl
      · exact HUB.out.1
      · exact hbc
      · exact htb
     exact hW.heap hU (Nat.lt_of_lt_of_le (HUL.out g hU) HST.out.size)
    have hxb : Blk wr w.heap.size 37 y.cells := (HEQ.out _ HUB.out.1).trans HXB.out
    have hcw : ∀ {o : Nat} {v : Value}, (colsCells L)[o]? = some v → wr.cell? ⟨bc, oc + o, none⟩ = some v := fun {o v} h => (cell_same' (HEQ.out bc hbc)).trans (hcc o v h)
    have htw : wr.cell? ⟨tb, tof + j, none⟩ = some (str t) := (cell_same' (HEQ.out tb htb)).trans (htc j _ (strC_at ht))
    have f0 : ∀ W, S0 W → W.cell? ⟨w.heap.size, 0, none⟩ = some (.slice (some ⟨y.gb, 0, none⟩) y.m y.cc) := fun W h => by rw [hS0] at h; exact (cell_same' (h _ (.inl rfl))).trans (hxb.at_ rfl)
    have f1 : ∀ W, S0 W → W.cell? ⟨w.heap.size, 1, none⟩ = some (.int .i64 y.secs) := fun W h => by rw [hS0] at h; exact (cell_same' (h _ (.inl rfl))).trans (hxb.at_ rfl)
    have f2 : ∀ W, S0 W → W.cell? ⟨w.heap.size, 2, none⟩ = some (.slice (some ⟨y.lb, 0, none⟩) y.bd.length y.lc) := fun W h => by rw [hS0] at h; exact (cell_same' (h _ (.inl rfl))).trans (hxb.at_ rfl)
    have f3 : ∀ W, S0 W → W.cell? ⟨w.heap.size, 3, none⟩ = some (.slice (some ⟨y.ab, 0, none⟩) y.bd.length y.bd.length) := fun W h => by rw [hS0] at h; exact (cell_same' (h _ (.inl rfl))).trans (hxb.at_ rfl)
    have f4 : ∀ W, S0 W → W.cell? ⟨bc, oc + j * 4, none⟩ = some (.int .i64 x.1) := fun W h => by rw [hS0] at h; exact (cell_same' (h _ (.inr (.inl rfl)))).trans (hcw q0)
    have f5 : ∀ W, S0 W → W.cell? ⟨bc, oc + j * 4 + 1, none⟩ = some (.int .i64 x.2.1) := fun W h => by rw [hS0] at h; exact (cell_same' (h _ (.inr (.inl rfl)))).trans (hcw q1)
    have f6 : ∀ W, S0 W → W.cell? ⟨bc, oc + j * 4 + 2, none⟩ = some (.bool x.2.2.1) := fun W h => by rw [hS0] at h; exact (cell_same' (h _ (.inr (.inl rfl)))).trans (hcw q2)
    have f7 : ∀ W, S0 W → W.cell? ⟨bc, oc + j * 4 + 3, none⟩ = some (.int .i64 x.2.2.2) := fun W h => by rw [hS0] at h; exact (cell_same' (h _ (.inr (.inl rfl)))).trans (hcw q3)
    have f8 : ∀ W, S0 W → W.cell? ⟨tb, tof + j, none⟩ = some (str t) := fun W h => by rw [hS0] at h; exact (cell_same' (h _ (.inr (.inr rfl)))).trans htw
    have hSw : S0 wr.drew := hS1 _ (Only.drew (stays_refl _))
    have HS1 := Lib.hid hS1
    have hd1 : decide (k < l.length) = true := decide_eq_true hlt
    have hd2 : decide (j < L.length) = true := decide_eq_true hjL
    have HLT := Lib.hid hlt
    have HMN := Lib.hid hmn
    have HHR := Lib.hid hhr
    clear hlt hmn hmt hts hxd htd hcl hcc htc hbl hbc htb q0 q1 q2 q3 hdk hput hhr hS0 hS1 hxb hcw htw hj hx ht ht64 hxi hib hx0 hx1
    go_wp2_with fail
    refine G.wp_region_eff S0 [18] 19 (by kernel_rfl) (by kernel_rfl) (by kernel_rfl) hSw ?_
    simp only [List.take_succ_cons, List.take_zero, List.drop_succ_cons, List.drop_zero]
    refine G.wpLexE_take 18 (by kernel_rfl) (by kernel_rfl) ?_
    simp only [List.take_succ_cons, List.take_zero, List.drop_succ_cons, List.drop_zero]
    repeat (first | go_big_quiet_skip | (go_big_quiet_want; go_big_quiet_op; first | go_big_quiet_on | (apply Exists.intro; refine ⟨fun W hW => ?_, ?_⟩; (focus ((first | exact rfl | exact ⟨rfl, rfl⟩ | (simp only [f0 W hW, f1 W hW, f2 W hW, f3 W hW, f4 W hW, f5 W hW, f6 W hW, f7 W hW, f8 W hW, Result.andThen_ok]; first | done | exact ⟨trivial, rfl⟩ | exact rfl | exact ⟨rfl, rfl⟩) | (skip)); done)); go_big_quiet_on)))
    refine wpQuiet_nil ?_
    show G.wpLexE _ _ _ _ _ _ _ _ _
    refine G.wpLexE_effg (by kernel_rfl) rfl ?_
    clear f0 f1 f2 f3 f4 f5 f6 f7 f8
    go_wp2_with fail
    refine HP.out.mono ?_
    rintro e w5 ⟨rfl, ⟨S5, hV5⟩, hst5⟩
    have hst5' : Stays U2 wr w5 := ⟨hst5.os, hst5.tape, hst5.output, hst5.size, hst5.block⟩
    have hS5 : S0 w5 := HS1.out _ hst5'
    have HV5 := Lib.hid hV5
    have HT5 := Lib.hid (HST.out.trans hst5')
    clear hst5 hst5' hV5 hSw HS1 HP
    obtain ⟨b, hb⟩ : ∃ b, hereD aw ds i = b := ⟨_, rfl⟩
    rw [hb] at HMN
    rw [hb]
    clear hb
    go_wp2_with fail
    refine ⟨rfl, hS5, ?_⟩
    show wpList _ _ _ _ _ _
    clear hS5
    cases b with
    | true =>
     go_wp2_with fail
     go_roundw
     case rel => exact ⟨k + 1, S5, HLT.out, by go_num, by rw [HMN.out]; go_num, HV5.out, HT5.out⟩
     case measure => have := HLT.out; simp [RowKit.intOf]; omega
    | false =>
     go_wp2_with fail
     go_roundw
     case rel => exact ⟨k + 1, S5, HLT.out, by go_num, by rw [HMN.out]; rfl, HV5.out, HT5.out⟩
     case measure => have := HLT.out; simp [RowKit.intOf]; omega
  · obtain rfl : k = l.length := by omega
    have hdc : decide (l.length < l.length) = false := decide_eq_false (by omega)
    have hnn : mendN (hereD aw ds) L l = n := by have := HN.out; rwa [List.take_length] at this
    have HNN := Lib.hid hnn
    have HVF := HV.out
    rw [List.take_length] at HVF
    have HVF := Lib.hid HVF
    clear hnn
    go_wp2_with fail
    go_ret
    rw [← HLT0.out.1, ← HLT0.out.2.1, HNN.out]
    exact ⟨rfl, ⟨S', HVF.out.narrow (fun b hb => HUB.out.2 b hb) HH.out.ug HH.out.ul HH.out.ua⟩, (stays_below HD4.out).trans (HST.out.mono (fun b hb => HUB.out.2 b hb))⟩
end Go.Proofs.YtbhkbcpljakmjaaGreat
