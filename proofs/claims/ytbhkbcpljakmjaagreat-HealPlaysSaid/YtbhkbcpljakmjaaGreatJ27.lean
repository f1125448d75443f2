/-
  Contracts of package heal: Read, Scrub.
  Devices on which a block was laid: plain words.
-/
import Derived.Test.YtbhkbcpljakmjaaGreatJ26
namespace Go.Proofs.YtbhkbcpljakmjaaGreat
set_option linter.unusedVariables false
set_option linter.unusedSimpArgs false
open Go.RowKit
def placesTo (full : Bool) (q : PtrD) (c : CameD) : Nat := if full then (plsL q).length else c.place + 1
def readN (full : Bool) (gs : List (Int × Int)) (secs : Int) (aw : List Bool) (q : PtrD) (ds : List DevD) : Nat :=
 if (lookV gs secs q (rawP gs secs q.size aw ds)).2 = 0 then mendC gs secs aw (lookV gs secs q (rawP gs secs q.size aw ds)).1.text ((plsL q).take (placesTo full q (lookV gs secs q (rawP gs secs q.size aw ds)).1)) ds else 0
def readD (full : Bool) (gs : List (Int × Int)) (secs : Int) (aw : List Bool) (q : PtrD) (ds : List DevD) : List DevD :=
 if (lookV gs secs q (rawP gs secs q.size aw ds)).2 = 0 then mendAll gs secs aw (lookV gs secs q (rawP gs secs q.size aw ds)).1.text ((plsL q).take (placesTo full q (lookV gs secs q (rawP gs secs q.size aw ds)).1)) ds else ds
theorem look_shape {gs : List (Int × Int)} {secs : Int} {q : PtrD} {R : PlX → List (List UInt8)} {c : CameD} {e : Int} (h : lookV gs secs q R = (c, e)) : c.fixed = 0 ∧ (e = 0 → rightB gs secs q = true ∧ c.place < (plsL q).length) := by
 unfold lookV at h
 split at h
 · rename_i hq
   suffices ∀ (l : List PlX) (i : Nat) (all : Bool), lookFrom gs secs q R l i all = (c, e) → c.fixed = 0 ∧ (e = 0 → c.place < i + l.length) from by
    obtain ⟨h1, h2⟩ := this _ _ _ h
    exact ⟨h1, fun he => ⟨hq, by have := h2 he; omega⟩⟩
   intro l
   induction l with
   | nil =>
    intro i all h
    unfold lookFrom at h
    cases h
    refine ⟨rfl, fun he => ?_⟩
    cases all <;> simp at he
   | cons pl r ih =>
    intro i all h
    unfold lookFrom at h
    split at h
    · cases h
      exact ⟨rfl, fun _ => by simp⟩
    · obtain ⟨h1, h2⟩ := ih _ _ h
      exact ⟨h1, fun he => by have := h2 he; rw [List.length_cons]; omega⟩
 · cases h
   exact ⟨rfl, fun he => by cases he⟩
theorem found_sec {gs : List (Int × Int)} {secs : Int} {q : PtrD} (hq : rightB gs secs q = true) {t : List UInt8} (h : t.length = q.size.toNat * 64) : (secN t : Int) = q.size ∧ secOk t = true := by
 have hb := cMay_bd ((pls_may hq) (q.ag, q.aa) (by rw [plsL_right hq]; split <;> simp))
 have h2 : (secN t : Int) = q.size := by unfold secN; omega
 refine ⟨h2, ?_⟩
 unfold secOk
 cases hx : t with
 | nil => rw [hx] at h; simp at h; omega
 | cons a r =>
  rw [hx] at h
  simp at h ⊢
  omega
set_option maxRecDepth 20000 in
set_option maxHeartbeats 4000000 in
theorem read10_any {w : World} {S : Nat → Nat → Prop} {U : Nat → Prop} {y : VX} {aw : List Bool} {ds : List DevD} (h : VdIn w S U y aw ds) (few : y.bd.length ≤ 1000) {N : Nat} (ok : DsOk N y.secs ds) (hN : N ≤ 800000) (q : PtrD) :
 Calls Tryz.prog 12 #[y.val, .agg #[.int .i64 q.ag, .int .i64 q.aa, .int .i64 q.bg, .int .i64 q.ba, .bool q.two, .int .i64 q.size, .int .i64 q.level, .int .i64 q.birth, .int .u64 q.s0, .int .u64 q.s1, .int .u64 q.s2, .int .u64 q.s3]] w fun e w' =>
  e = .returned (.tuple #[.agg ({ (lookV y.gs y.secs q (rawP y.gs y.secs q.size aw ds)).1 with fixed := readN false y.gs y.secs aw q ds } : CameD).cells, .int .i64 (lookV y.gs y.secs q (rawP y.gs y.secs q.size aw ds)).2]) ∧
  (∃ S', VdIn w' S' U y aw (readD false y.gs y.secs aw q ds)) ∧ Stays U w w' := by
 obtain ⟨⟨ct, cpl, cdv, cfx⟩, er, hlv⟩ : ∃ c er, lookV y.gs y.secs q (rawP y.gs y.secs q.size aw ds) = (c, er) := ⟨_, _, rfl⟩
 have hsh := look_shape hlv
 obtain rfl : cfx = 0 := hsh.1
 have hsh2 : er = 0 → rightB y.gs y.secs q = true ∧ cpl < (plsL q).length := hsh.2
 clear hsh
 have hrn : readN false y.gs y.secs aw q ds = if er = 0 then mendC y.gs y.secs aw ct ((plsL q).take (placesTo false q ⟨ct, cpl, cdv, 0⟩)) ds else 0 := by unfold readN; rw [hlv]
 have hrd : readD false y.gs y.secs aw q ds = if er = 0 then mendAll y.gs y.secs aw ct ((plsL q).take (placesTo false q ⟨ct, cpl, cdv, 0⟩)) ds else ds := by unfold readD; rw [hlv]
 have hLK := fun (W : World) (hW : VdIn W S U y aw ds) => look_any hW few ok q
 rw [hlv] at hLK
 dsimp only [CameD.cells] at hLK
 rw [hlv, hrn, hrd]
 dsimp only [CameD.cells]
 obtain ⟨K, hK⟩ : ∃ K, (plsL q).take (placesTo false q ⟨ct, cpl, cdv, 0⟩) = K := ⟨_, rfl⟩
 rw [hK]
 obtain ⟨nn, hnn⟩ : ∃ nn, mendC y.gs y.secs aw ct K ds = nn := ⟨_, rfl⟩
 obtain ⟨dD, hdD⟩ : ∃ dD, mendAll y.gs y.secs aw ct K ds = dD := ⟨_, rfl⟩
 rw [hnn, hdD]
 have HK := Lib.hid (And.intro hK (And.intro hnn hdD))
 clear hK hnn hdD
 have HSH := Lib.hid hsh2
 have HFD : Hid (er = 0 → (secN ct : Int) = q.size ∧ secOk ct = true) := Lib.hid (fun he => by
  subst he
  have h1 := hsh2 rfl
  exact found_sec h1.1 (look_found h1.1 ok hlv).2)
 obtain ⟨w2, hw2⟩ : ∃ z, ((w.alloc (.cells y.cells 37)).alloc (.cells #[.int .i64 q.ag, .int .i64 q.aa, .int .i64 q.bg, .int .i64 q.ba, .bool q.two, .int .i64 q.size, .int .i64 q.level, .int .i64 q.birth, .int .u64 q.s0, .int .u64 q.s1, .int .u64 q.s2, .int .u64 q.s3] 31)).alloc (.cells #[str [], .int .i64 0, .int .i64 0, .int .i64 0] 45) = z := ⟨_, rfl⟩
 have B1 : Blk w2 w.heap.size 37 y.cells := by rw [← hw2]; exact ((Blk.new _ _ _).alloc _).alloc _
 have B2 : Blk w2 (w.heap.size + 1) 31 #[.int .i64 q.ag, .int .i64 q.aa, .int .i64 q.bg, .int .i64 q.ba, .bool q.two, .int .i64 q.size, .int .i64 q.level, .int .i64 q.birth, .int .u64 q.s0, .int .u64 q.s1, .int .u64 q.s2, .int .u64 q.s3] := by rw [← hw2]; exact (Blk.new2 _ _ _ _).alloc _
 have B3 : Blk w2 (w.heap.size + 1 + 1) 45 #[str [], .int .i64 0, .int .i64 0, .int .i64 0] := by rw [← hw2]; have := Blk.new2 (w.alloc (.cells y.cells 37)) (.cells #[.int .i64 q.ag, .int .i64 q.aa, .int .i64 q.bg, .int .i64 q.ba, .bool q.two, .int .i64 q.size, .int .i64 q.level, .int .i64 q.birth, .int .u64 q.s0, .int .u64 q.s1, .int .u64 q.s2, .int .u64 q.s3] 31) 45 #[str [], .int .i64 0, .int .i64 0, .int .i64 0]; rw [World.size_alloc] at this; exact this
 have D2 : Below w.heap.size w w2 := by rw [← hw2]; exact keep_alloc (keep_alloc (keep_alloc (Below.refl _ _) _) _) _
 have HLK := Lib.hid (hLK w2 (h.below D2))
 have HB := Lib.hid (And.intro B1 (And.intro B2 B3))
 have HH := Lib.hid (And.intro h ok)
 have HD2 := Lib.hid D2
 have HW2 := Lib.hid hw2
 clear h ok B1 B2 B3 D2 hw2 hrn hrd hlv hLK hsh2
 have hB := HB.out
 rw [← HW2.out] at hB
 have hB := And.intro hB.1 hB.2.1
 have x0 := (hB).1.at_ (i := 0) (v := .slice (some ⟨y.gb, 0, none⟩) y.m y.cc) rfl
 have x1 := (hB).1.at_ (i := 1) (v := .int .i64 y.secs) rfl
 have x2 := (hB).1.at_ (i := 2) (v := .slice (some ⟨y.lb, 0, none⟩) y.bd.length y.lc) rfl
 have x3 := (hB).1.at_ (i := 3) (v := .slice (some ⟨y.ab, 0, none⟩) y.bd.length y.bd.length) rfl
 have p0 := (hB).2.at_ (i := 0) (v := .int .i64 q.ag) rfl
 have p1 := (hB).2.at_ (i := 1) (v := .int .i64 q.aa) rfl
 have p2 := (hB).2.at_ (i := 2) (v := .int .i64 q.bg) rfl
 have p3 := (hB).2.at_ (i := 3) (v := .int .i64 q.ba) rfl
 have p4 := (hB).2.at_ (i := 4) (v := .bool q.two) rfl
 have p5 := (hB).2.at_ (i := 5) (v := .int .i64 q.size) rfl
 have p6 := (hB).2.at_ (i := 6) (v := .int .i64 q.level) rfl
 have p7 := (hB).2.at_ (i := 7) (v := .int .i64 q.birth) rfl
 have p8 := (hB).2.at_ (i := 8) (v := .int .u64 q.s0) rfl
 have p9 := (hB).2.at_ (i := 9) (v := .int .u64 q.s1) rfl
 have p10 := (hB).2.at_ (i := 10) (v := .int .u64 q.s2) rfl
 have p11 := (hB).2.at_ (i := 11) (v := .int .u64 q.s3) rfl
 clear hB
 go_enter Tryz.func12, Tryz.ntmps12
 go_wp2_with fail
 rw [HW2.out]
 refine HLK.out.mono ?_
 rintro e w3 ⟨rfl, hb3⟩
 obtain ⟨w4, hw4⟩ : ∃ z, w3.alloc (.cells #[str ct, .int .i64 cpl, .int .i64 cdv, .int .i64 0] 45) = z := ⟨_, rfl⟩
 have hb4 : Below w3.heap.size w3 w4 := by rw [← hw4]; exact keep_alloc (Below.refl _ _) _
 have hb24 := keep_below hb4 hb3
 have hN4 : Blk w4 w3.heap.size 45 #[str ct, .int .i64 cpl, .int .i64 cdv, .int .i64 0] := by rw [← hw4]; exact Blk.new _ _ _
 have HB4 := Lib.hid (And.intro (HB.out.1.below hb24 HB.out.1.lt) (And.intro (HB.out.2.1.below hb24 HB.out.2.1.lt) (And.intro (HB.out.2.2.below hb24 HB.out.2.2.lt) hN4)))
 have HD4 := Lib.hid (keep_below hb24 HD2.out)
 have HS3 : Hid (w.heap.size + 1 + 1 < w3.heap.size) := Lib.hid (by have := HB.out.2.2.lt; have := hb3.size; omega)
 have HW4 := Lib.hid hw4
 have hB := And.intro HB4.out.1 HB4.out.2.1
 rw [← HW4.out] at hB
 clear x0 x1 x2 x3 p0 p1 p2 p3 p4 p5 p6 p7 p8 p9 p10 p11 hb3 hw4 hb4 hb24 hN4
 have x0 := (hB).1.at_ (i := 0) (v := .slice (some ⟨y.gb, 0, none⟩) y.m y.cc) rfl
 have x1 := (hB).1.at_ (i := 1) (v := .int .i64 y.secs) rfl
 have x2 := (hB).1.at_ (i := 2) (v := .slice (some ⟨y.lb, 0, none⟩) y.bd.length y.lc) rfl
 have x3 := (hB).1.at_ (i := 3) (v := .slice (some ⟨y.ab, 0, none⟩) y.bd.length y.bd.length) rfl
 have p0 := (hB).2.at_ (i := 0) (v := .int .i64 q.ag) rfl
 have p1 := (hB).2.at_ (i := 1) (v := .int .i64 q.aa) rfl
 have p2 := (hB).2.at_ (i := 2) (v := .int .i64 q.bg) rfl
 have p3 := (hB).2.at_ (i := 3) (v := .int .i64 q.ba) rfl
 have p4 := (hB).2.at_ (i := 4) (v := .bool q.two) rfl
 have p5 := (hB).2.at_ (i := 5) (v := .int .i64 q.size) rfl
 have p6 := (hB).2.at_ (i := 6) (v := .int .i64 q.level) rfl
 have p7 := (hB).2.at_ (i := 7) (v := .int .i64 q.birth) rfl
 have p8 := (hB).2.at_ (i := 8) (v := .int .u64 q.s0) rfl
 have p9 := (hB).2.at_ (i := 9) (v := .int .u64 q.s1) rfl
 have p10 := (hB).2.at_ (i := 10) (v := .int .u64 q.s2) rfl
 have p11 := (hB).2.at_ (i := 11) (v := .int .u64 q.s3) rfl
 have m0 := HB4.out.2.2.2.at_ (i := 0) (v := str ct) rfl
 have m1 := HB4.out.2.2.2.at_ (i := 1) (v := .int .i64 cpl) rfl
 have m2 := HB4.out.2.2.2.at_ (i := 2) (v := .int .i64 cdv) rfl
 have m3 := HB4.out.2.2.2.at_ (i := 3) (v := .int .i64 0) rfl
 rw [← HW4.out] at m0 m1 m2 m3
 clear hB
 by_cases her : er = 0
 · subst her
   have hsh := HSH.out rfl
   have hfd := HFD.out rfl
   have hq := hsh.1
   have hpl2 : cpl < 2 := by have := plsL_len q; omega
   obtain ⟨U2, hU2⟩ : ∃ U2, U2 = more U w w4 := ⟨_, rfl⟩
   have hV4 : VdIn w4 S U2 y aw ds := by rw [hU2]; exact HH.out.1.more HD4.out
   have hu : U2 (w.heap.size) ∧ U2 (w.heap.size + 1) ∧ U2 (w.heap.size + 1 + 1) ∧ U2 w3.heap.size ∧ ∀ b, U b → U2 b := by rw [hU2]; exact ⟨.inr ⟨Nat.le_refl _, HB4.out.1.lt⟩, .inr ⟨by omega, HB4.out.2.1.lt⟩, .inr ⟨by omega, HB4.out.2.2.1.lt⟩, .inr ⟨by have := HS3.out; omega, HB4.out.2.2.2.lt⟩, fun b hb => .inl hb⟩
   have HU := Lib.hid hu
   have hKc : (plsL q).take (cpl + 1) = K := HK.out.1
   have HMD := mended_any hV4 few HH.out.2 hN q hq ct hfd.1 hfd.2 (cpl + 1) hsh.2
   rw [hKc, HK.out.2.1, HK.out.2.2] at HMD
   simp only [if_true]
   clear hKc
   simp only [Int.natCast_add, Int.natCast_one] at HMD
   have HMD := Lib.hid HMD
   clear hsh hfd hq hU2 hV4 hu
   go_wp2_with fail
   rw [HW4.out]
   refine HMD.out.mono ?_
   clear x0 x1 x2 x3 p0 p1 p2 p3 p4 p5 p6 p7 p8 p9 p10 p11 m0 m1 m2 m3
   rintro e w5 ⟨rfl, ⟨S5, hV5⟩, hst5⟩
   have c5 : Blk w5 w3.heap.size 45 #[str ct, .int .i64 cpl, .int .i64 cdv, .int .i64 0] := (hst5.heap HU.out.2.2.2.1 HB4.out.2.2.2.lt).trans HB4.out.2.2.2
   have r5 : Blk w5 (w.heap.size + 1 + 1) 45 #[str [], .int .i64 0, .int .i64 0, .int .i64 0] := (hst5.heap HU.out.2.2.1 HB4.out.2.2.1.lt).trans HB4.out.2.2.1
   have hs35 : w.heap.size + 1 + 1 < w3.heap.size := HS3.out
   obtain ⟨w6, hw6⟩ : ∃ z, w5.setCell ⟨w3.heap.size, 3, none⟩ (.int .i64 nn) = z := ⟨_, rfl⟩
   have c6 : Blk w6 w3.heap.size 45 #[str ct, .int .i64 cpl, .int .i64 cdv, .int .i64 nn] := by rw [← hw6]; exact c5.put 3 (.int .i64 nn)
   have r6 : Blk w6 (w.heap.size + 1 + 1) 45 #[str [], .int .i64 0, .int .i64 0, .int .i64 0] := by rw [← hw6]; exact r5.far (by intro hh; dsimp only at hh; omega) _
   have m3 := c5.at_ (i := 3) (v := .int .i64 0) rfl
   have g3' := c5.fr 3
   have n0 := c6.at_ (i := 0) (v := str ct) rfl
   have n1 := c6.at_ (i := 1) (v := .int .i64 cpl) rfl
   have n2 := c6.at_ (i := 2) (v := .int .i64 cdv) rfl
   have n3 := c6.at_ (i := 3) (v := .int .i64 nn) rfl
   rw [← hw6] at n0 n1 n2 n3
   have hz := r6
   rw [← hw6] at hz
   have z0 := (hz).at_ (i := 0) (v := str []) rfl
   have z1 := (hz).at_ (i := 1) (v := .int .i64 0) rfl
   have z2 := (hz).at_ (i := 2) (v := .int .i64 0) rfl
   have z3 := (hz).at_ (i := 3) (v := .int .i64 0) rfl
   have g0 := (hz).fr 0
   have g1 := (hz).fr 1
   have g2 := (hz).fr 2
   have g3 := (hz).fr 3
   have HF := Lib.hid (And.intro hV5 (And.intro hst5 (And.intro c6 r6)))
   have HW6 := Lib.hid hw6
   clear hV5 hst5 c5 r5 c6 r6 hw6 hz
   go_wp2_with fail
   rw [HW6.out]
   have hP := ((((HF.out.2.2.2).put 0 (str ct)).put 1 (.int .i64 cpl)).put 2 (.int .i64 cdv)).put 3 (.int .i64 nn)
   have e0 := hP.at_ (i := 0) (v := str ct) rfl
   have e1 := hP.at_ (i := 1) (v := .int .i64 cpl) rfl
   have e2 := hP.at_ (i := 2) (v := .int .i64 cdv) rfl
   have e3 := hP.at_ (i := 3) (v := .int .i64 nn) rfl
   refine bodyPost_ret (v := .tuple #[.agg #[str ct, .int .i64 cpl, .int .i64 cdv, .int .i64 nn], .int .i64 0]) (by simp [results, Tryz.f12, go_sem, e0, e1, e2, e3]) rfl ⟨rfl, ⟨S5, ?_⟩, ?_⟩
   · refine (HF.out.1.only (T := fun g => w.heap.size + 1 + 1 = g ∨ g = w3.heap.size) ?_ (fun g hg => ?_)).narrow (fun b hb => HU.out.2.2.2.2 b hb) HH.out.1.ug HH.out.1.ul HH.out.1.ua
     · rw [← HW6.out]
       exact (((((Only.refl _ _).set (.inl (.inr rfl)) _).set (.inl (.inl rfl)) _).set (.inl (.inl rfl)) _).set (.inl (.inl rfl)) _).set (.inl (.inl rfl)) _
     · have h1 := HH.out.1.us _ HH.out.1.ug
       have h2 := HH.out.1.us _ HH.out.1.ul
       have h3 := HH.out.1.us _ HH.out.1.ua
       have h4 := HS3.out
       rcases hg with hg | hg
       · subst hg
         exact ⟨HU.out.2.2.1, by omega, by omega, by omega⟩
       · subst hg
         exact ⟨HU.out.2.2.2.1, by omega, by omega, by omega⟩
   · refine (stays_below HD4.out).trans ((HF.out.2.1.mono HU.out.2.2.2.2).trans ?_)
     rw [← HW6.out]
     have hnu : ∀ g, w.heap.size ≤ g → ¬ U g := fun g hg hu => by have := HH.out.1.us g hu; omega
     have h4 := HS3.out
     exact (((((Only.refl _ _).set (.inl (hnu _ (by show _ ≤ w3.heap.size; omega))) _).set (.inl (hnu _ (by show _ ≤ w.heap.size + 1 + 1; omega))) _).set (.inl (hnu _ (by show _ ≤ w.heap.size + 1 + 1; omega))) _).set (.inl (hnu _ (by show _ ≤ w.heap.size + 1 + 1; omega))) _).set (.inl (hnu _ (by show _ ≤ w.heap.size + 1 + 1; omega))) _
 · have hz := HB4.out.2.2.1
   rw [← HW4.out] at hz
   have z0 := (hz).at_ (i := 0) (v := str []) rfl
   have z1 := (hz).at_ (i := 1) (v := .int .i64 0) rfl
   have z2 := (hz).at_ (i := 2) (v := .int .i64 0) rfl
   have z3 := (hz).at_ (i := 3) (v := .int .i64 0) rfl
   have g0 := (hz).fr 0
   have g1 := (hz).fr 1
   have g2 := (hz).fr 2
   have g3 := (hz).fr 3
   have HNE := Lib.hid her
   have hner : (er == 0) = false := beq_eq_false_iff_ne.2 her
   clear her hz
   go_wp2_with fail
   rw [HW4.out]
   have hP := ((((HB4.out.2.2.1).put 0 (str ct)).put 1 (.int .i64 cpl)).put 2 (.int .i64 cdv)).put 3 (.int .i64 0)
   have e0 := hP.at_ (i := 0) (v := str ct) rfl
   have e1 := hP.at_ (i := 1) (v := .int .i64 cpl) rfl
   have e2 := hP.at_ (i := 2) (v := .int .i64 cdv) rfl
   have e3 := hP.at_ (i := 3) (v := .int .i64 0) rfl
   refine bodyPost_ret (v := .tuple #[.agg #[str ct, .int .i64 cpl, .int .i64 cdv, .int .i64 0], .int .i64 er]) (by simp [results, Tryz.f12, go_sem, e0, e1, e2, e3]) rfl ⟨by rfl, ⟨S, ?_⟩, ?_⟩
   · obtain ⟨U2, hU2⟩ : ∃ U2, U2 = more U w w4 := ⟨_, rfl⟩
     have hV4 : VdIn w4 S U2 y aw ds := by rw [hU2]; exact HH.out.1.more HD4.out
     have hu2 : U2 (w.heap.size + 1 + 1) := by rw [hU2]; exact .inr ⟨by omega, HB4.out.2.2.1.lt⟩
     have hu3 : ∀ b, U b → U2 b := by rw [hU2]; exact fun b hb => .inl hb
     refine (hV4.only (T := fun g => w.heap.size + 1 + 1 = g) ?_ (fun g hg => ?_)).narrow hu3 HH.out.1.ug HH.out.1.ul HH.out.1.ua
     · have hT : ∀ o, (fun g => w.heap.size + 1 + 1 = g) (⟨w.heap.size + 1 + 1, o, none⟩ : Addr).block ∨ w4.heap.size ≤ (⟨w.heap.size + 1 + 1, o, none⟩ : Addr).block := fun o => .inl rfl
       exact ((((Only.refl (fun g => w.heap.size + 1 + 1 = g) w4).set (hT 0) _).set (hT 1) _).set (hT 2) _).set (hT 3) _
     · subst hg
       have h1 := HH.out.1.us _ HH.out.1.ug
       have h2 := HH.out.1.us _ HH.out.1.ul
       have h3 := HH.out.1.us _ HH.out.1.ua
       exact ⟨hu2, by omega, by omega, by omega⟩
   · exact stays_below (below_set (below_set (below_set (below_set HD4.out _ _ _ (by omega)) _ _ _ (by omega)) _ _ _ (by omega)) _ _ _ (by omega))
set_option maxRecDepth 20000 in
set_option maxHeartbeats 4000000 in
theorem scrub10_any {w : World} {S : Nat → Nat → Prop} {U : Nat → Prop} {y : VX} {aw : List Bool} {ds : List DevD} (h : VdIn w S U y aw ds) (few : y.bd.length ≤ 1000) {N : Nat} (ok : DsOk N y.secs ds) (hN : N ≤ 800000) (q : PtrD) :
 Calls Tryz.prog 13 #[y.val, .agg #[.int .i64 q.ag, .int .i64 q.aa, .int .i64 q.bg, .int .i64 q.ba, .bool q.two, .int .i64 q.size, .int .i64 q.level, .int .i64 q.birth, .int .u64 q.s0, .int .u64 q.s1, .int .u64 q.s2, .int .u64 q.s3]] w fun e w' =>
  e = .returned (.tuple #[.agg ({ (lookV y.gs y.secs q (rawP y.gs y.secs q.size aw ds)).1 with fixed := readN true y.gs y.secs aw q ds } : CameD).cells, .int .i64 (lookV y.gs y.secs q (rawP y.gs y.secs q.size aw ds)).2]) ∧
  (∃ S', VdIn w' S' U y aw (readD true y.gs y.secs aw q ds)) ∧ Stays U w w' := by
 obtain ⟨⟨ct, cpl, cdv, cfx⟩, er, hlv⟩ : ∃ c er, lookV y.gs y.secs q (rawP y.gs y.secs q.size aw ds) = (c, er) := ⟨_, _, rfl⟩
 have hsh := look_shape hlv
 obtain rfl : cfx = 0 := hsh.1
 have hsh2 : er = 0 → rightB y.gs y.secs q = true ∧ cpl < (plsL q).length := hsh.2
 clear hsh
 have hrn : readN true y.gs y.secs aw q ds = if er = 0 then mendC y.gs y.secs aw ct ((plsL q).take (placesTo true q ⟨ct, cpl, cdv, 0⟩)) ds else 0 := by unfold readN; rw [hlv]
 have hrd : readD true y.gs y.secs aw q ds = if er = 0 then mendAll y.gs y.secs aw ct ((plsL q).take (placesTo true q ⟨ct, cpl, cdv, 0⟩)) ds else ds := by unfold readD; rw [hlv]
 have hLK := fun (W : World) (hW : VdIn W S U y aw ds) => look_any hW few ok q
 rw [hlv] at hLK
 dsimp only [CameD.cells] at hLK
 rw [hlv, hrn, hrd]
 dsimp only [CameD.cells]
 obtain ⟨K, hK⟩ : ∃ K, (plsL q).take (placesTo true q ⟨ct, cpl, cdv, 0⟩) = K := ⟨_, rfl⟩
 rw [hK]
 obtain ⟨nn, hnn⟩ : ∃ nn, mendC y.gs y.secs aw ct K ds = nn := ⟨_, rfl⟩
 obtain ⟨dD, hdD⟩ : ∃ dD, mendAll y.gs y.secs aw ct K ds = dD := ⟨_, rfl⟩
 rw [hnn, hdD]
 have HK := Lib.hid (And.intro hK (And.intro hnn hdD))
 clear hK hnn hdD
 have HSH := Lib.hid hsh2
 have HFD : Hid (er = 0 → (secN ct : Int) = q.size ∧ secOk ct = true) := Lib.hid (fun he => by
  subst he
  have h1 := hsh2 rfl
  exact found_sec h1.1 (look_found h1.1 ok hlv).2)
 obtain ⟨w2, hw2⟩ : ∃ z, ((w.alloc (.cells y.cells 37)).alloc (.cells #[.int .i64 q.ag, .int .i64 q.aa, .int .i64 q.bg, .int .i64 q.ba, .bool q.two, .int .i64 q.size, .int .i64 q.level, .int .i64 q.birth, .int .u64 q.s0, .int .u64 q.s1, .int .u64 q.s2, .int .u64 q.s3] 31)).alloc (.cells #[str [], .int .i64 0, .int .i64 0, .int .i64 0] 45) = z := ⟨_, rfl⟩
 have B1 : Blk w2 w.heap.size 37 y.cells := by rw [← hw2]; exact ((Blk.new _ _ _).alloc _).alloc _
 have B2 : Blk w2 (w.heap.size + 1) 31 #[.int .i64 q.ag, .int .i64 q.aa, .int .i64 q.bg, .int .i64 q.ba, .bool q.two, .int .i64 q.size, .int .i64 q.level, .int .i64 q.birth, .int .u64 q.s0, .int .u64 q.s1, .int .u64 q.s2, .int .u64 q.s3] := by rw [← hw2]; exact (Blk.new2 _ _ _ _).alloc _
 have B3 : Blk w2 (w.heap.size + 1 + 1) 45 #[str [], .int .i64 0, .int .i64 0, .int .i64 0] := by rw [← hw2]; have := Blk.new2 (w.alloc (.cells y.cells 37)) (.cells #[.int .i64 q.ag, .int .i64 q.aa, .int .i64 q.bg, .int .i64 q.ba, .bool q.two, .int .i64 q.size, .int .i64 q.level, .int .i64 q.birth, .int .u64 q.s0, .int .u64 q.s1, .int .u64 q.s2, .int .u64 q.s3] 31) 45 #[str [], .int .i64 0, .int .i64 0, .int .i64 0]; rw [World.size_alloc] at this; exact this
 have D2 : Below w.heap.size w w2 := by rw [← hw2]; exact keep_alloc (keep_alloc (keep_alloc (Below.refl _ _) _) _) _
 have HLK := Lib.hid (hLK w2 (h.below D2))
 have HB := Lib.hid (And.intro B1 (And.intro B2 B3))
 have HH := Lib.hid (And.intro h ok)
 have HD2 := Lib.hid D2
 have HW2 := Lib.hid hw2
 clear h ok B1 B2 B3 D2 hw2 hrn hrd hlv hLK hsh2
 have hB := HB.out
 rw [← HW2.out] at hB
 have hB := And.intro hB.1 hB.2.1
 have x0 := (hB).1.at_ (i := 0) (v := .slice (some ⟨y.gb, 0, none⟩) y.m y.cc) rfl
 have x1 := (hB).1.at_ (i := 1) (v := .int .i64 y.secs) rfl
 have x2 := (hB).1.at_ (i := 2) (v := .slice (some ⟨y.lb, 0, none⟩) y.bd.length y.lc) rfl
 have x3 := (hB).1.at_ (i := 3) (v := .slice (some ⟨y.ab, 0, none⟩) y.bd.length y.bd.length) rfl
 have p0 := (hB).2.at_ (i := 0) (v := .int .i64 q.ag) rfl
 have p1 := (hB).2.at_ (i := 1) (v := .int .i64 q.aa) rfl
 have p2 := (hB).2.at_ (i := 2) (v := .int .i64 q.bg) rfl
 have p3 := (hB).2.at_ (i := 3) (v := .int .i64 q.ba) rfl
 have p4 := (hB).2.at_ (i := 4) (v := .bool q.two) rfl
 have p5 := (hB).2.at_ (i := 5) (v := .int .i64 q.size) rfl
 have p6 := (hB).2.at_ (i := 6) (v := .int .i64 q.level) rfl
 have p7 := (hB).2.at_ (i := 7) (v := .int .i64 q.birth) rfl
 have p8 := (hB).2.at_ (i := 8) (v := .int .u64 q.s0) rfl
 have p9 := (hB).2.at_ (i := 9) (v := .int .u64 q.s1) rfl
 have p10 := (hB).2.at_ (i := 10) (v := .int .u64 q.s2) rfl
 have p11 := (hB).2.at_ (i := 11) (v := .int .u64 q.s3) rfl
 clear hB
 go_enter Tryz.func13, Tryz.ntmps13
 go_wp2_with fail
 rw [HW2.out]
 refine HLK.out.mono ?_
 rintro e w3 ⟨rfl, hb3⟩
 obtain ⟨w4, hw4⟩ : ∃ z, w3.alloc (.cells #[str ct, .int .i64 cpl, .int .i64 cdv, .int .i64 0] 45) = z := ⟨_, rfl⟩
 have hb4 : Below w3.heap.size w3 w4 := by rw [← hw4]; exact keep_alloc (Below.refl _ _) _
 have hb24 := keep_below hb4 hb3
 have hN4 : Blk w4 w3.heap.size 45 #[str ct, .int .i64 cpl, .int .i64 cdv, .int .i64 0] := by rw [← hw4]; exact Blk.new _ _ _
 have HB4 := Lib.hid (And.intro (HB.out.1.below hb24 HB.out.1.lt) (And.intro (HB.out.2.1.below hb24 HB.out.2.1.lt) (And.intro (HB.out.2.2.below hb24 HB.out.2.2.lt) hN4)))
 have HD4 := Lib.hid (keep_below hb24 HD2.out)
 have HS3 : Hid (w.heap.size + 1 + 1 < w3.heap.size) := Lib.hid (by have := HB.out.2.2.lt; have := hb3.size; omega)
 have HW4 := Lib.hid hw4
 have hB := And.intro HB4.out.1 HB4.out.2.1
 rw [← HW4.out] at hB
 clear x0 x1 x2 x3 p0 p1 p2 p3 p4 p5 p6 p7 p8 p9 p10 p11 hb3 hw4 hb4 hb24 hN4
 have x0 := (hB).1.at_ (i := 0) (v := .slice (some ⟨y.gb, 0, none⟩) y.m y.cc) rfl
 have x1 := (hB).1.at_ (i := 1) (v := .int .i64 y.secs) rfl
 have x2 := (hB).1.at_ (i := 2) (v := .slice (some ⟨y.lb, 0, none⟩) y.bd.length y.lc) rfl
 have x3 := (hB).1.at_ (i := 3) (v := .slice (some ⟨y.ab, 0, none⟩) y.bd.length y.bd.length) rfl
 have p0 := (hB).2.at_ (i := 0) (v := .int .i64 q.ag) rfl
 have p1 := (hB).2.at_ (i := 1) (v := .int .i64 q.aa) rfl
 have p2 := (hB).2.at_ (i := 2) (v := .int .i64 q.bg) rfl
 have p3 := (hB).2.at_ (i := 3) (v := .int .i64 q.ba) rfl
 have p4 := (hB).2.at_ (i := 4) (v := .bool q.two) rfl
 have p5 := (hB).2.at_ (i := 5) (v := .int .i64 q.size) rfl
 have p6 := (hB).2.at_ (i := 6) (v := .int .i64 q.level) rfl
 have p7 := (hB).2.at_ (i := 7) (v := .int .i64 q.birth) rfl
 have p8 := (hB).2.at_ (i := 8) (v := .int .u64 q.s0) rfl
 have p9 := (hB).2.at_ (i := 9) (v := .int .u64 q.s1) rfl
 have p10 := (hB).2.at_ (i := 10) (v := .int .u64 q.s2) rfl
 have p11 := (hB).2.at_ (i := 11) (v := .int .u64 q.s3) rfl
 have m0 := HB4.out.2.2.2.at_ (i := 0) (v := str ct) rfl
 have m1 := HB4.out.2.2.2.at_ (i := 1) (v := .int .i64 cpl) rfl
 have m2 := HB4.out.2.2.2.at_ (i := 2) (v := .int .i64 cdv) rfl
 have m3 := HB4.out.2.2.2.at_ (i := 3) (v := .int .i64 0) rfl
 rw [← HW4.out] at m0 m1 m2 m3
 clear hB
 by_cases her : er = 0
 · subst her
   have hsh := HSH.out rfl
   have hfd := HFD.out rfl
   have hq := hsh.1
   have hpl2 : cpl < 2 := by have := plsL_len q; omega
   obtain ⟨U2, hU2⟩ : ∃ U2, U2 = more U w w4 := ⟨_, rfl⟩
   have hV4 : VdIn w4 S U2 y aw ds := by rw [hU2]; exact HH.out.1.more HD4.out
   have hu : U2 (w.heap.size) ∧ U2 (w.heap.size + 1) ∧ U2 (w.heap.size + 1 + 1) ∧ U2 w3.heap.size ∧ ∀ b, U b → U2 b := by rw [hU2]; exact ⟨.inr ⟨Nat.le_refl _, HB4.out.1.lt⟩, .inr ⟨by omega, HB4.out.2.1.lt⟩, .inr ⟨by omega, HB4.out.2.2.1.lt⟩, .inr ⟨by have := HS3.out; omega, HB4.out.2.2.2.lt⟩, fun b hb => .inl hb⟩
   have HU := Lib.hid hu
   have hKc : (plsL q).take (plsL q).length = K := HK.out.1
   obtain ⟨S0, hS0⟩ : ∃ S0 : World → Prop, S0 = fun W => ∀ g, (g = w.heap.size ∨ g = w.heap.size + 1 ∨ g = w3.heap.size) → W.heap[g]? = w4.heap[g]? := ⟨_, rfl⟩
   have hS1 : ∀ W, Stays U2 w4 W → S0 W := fun W hW => by
    rw [hS0]
    intro g hg
    have hU : U2 g := by
     rcases hg with rfl | rfl | rfl
     · exact hu.1
     · exact hu.2.1
     · exact hu.2.2.2.1
    exact hW.heap hU (hV4.us g hU)
   have f0 : ∀ W, S0 W → W.cell? ⟨w.heap.size, 0, none⟩ = some (.slice (some ⟨y.gb, 0, none⟩) y.m y.cc) := fun W h => by rw [hS0] at h; exact (cell_same' (h _ (.inl rfl))).trans (HB4.out.1.at_ rfl)
   have f1 : ∀ W, S0 W → W.cell? ⟨w.heap.size, 1, none⟩ = some (.int .i64 y.secs) := fun W h => by rw [hS0] at h; exact (cell_same' (h _ (.inl rfl))).trans (HB4.out.1.at_ rfl)
   have f2 : ∀ W, S0 W → W.cell? ⟨w.heap.size, 2, none⟩ = some (.slice (some ⟨y.lb, 0, none⟩) y.bd.length y.lc) := fun W h => by rw [hS0] at h; exact (cell_same' (h _ (.inl rfl))).trans (HB4.out.1.at_ rfl)
   have f3 : ∀ W, S0 W → W.cell? ⟨w.heap.size, 3, none⟩ = some (.slice (some ⟨y.ab, 0, none⟩) y.bd.length y.bd.length) := fun W h => by rw [hS0] at h; exact (cell_same' (h _ (.inl rfl))).trans (HB4.out.1.at_ rfl)
   have f4 : ∀ W, S0 W → W.cell? ⟨w.heap.size + 1, 0, none⟩ = some (.int .i64 q.ag) := fun W h => by rw [hS0] at h; exact (cell_same' (h _ (.inr (.inl rfl)))).trans (HB4.out.2.1.at_ rfl)
   have f5 : ∀ W, S0 W → W.cell? ⟨w.heap.size + 1, 1, none⟩ = some (.int .i64 q.aa) := fun W h => by rw [hS0] at h; exact (cell_same' (h _ (.inr (.inl rfl)))).trans (HB4.out.2.1.at_ rfl)
   have f6 : ∀ W, S0 W → W.cell? ⟨w.heap.size + 1, 2, none⟩ = some (.int .i64 q.bg) := fun W h => by rw [hS0] at h; exact (cell_same' (h _ (.inr (.inl rfl)))).trans (HB4.out.2.1.at_ rfl)
   have f7 : ∀ W, S0 W → W.cell? ⟨w.heap.size + 1, 3, none⟩ = some (.int .i64 q.ba) := fun W h => by rw [hS0] at h; exact (cell_same' (h _ (.inr (.inl rfl)))).trans (HB4.out.2.1.at_ rfl)
   have f8 : ∀ W, S0 W → W.cell? ⟨w.heap.size + 1, 4, none⟩ = some (.bool q.two) := fun W h => by rw [hS0] at h; exact (cell_same' (h _ (.inr (.inl rfl)))).trans (HB4.out.2.1.at_ rfl)
   have f9 : ∀ W, S0 W → W.cell? ⟨w.heap.size + 1, 5, none⟩ = some (.int .i64 q.size) := fun W h => by rw [hS0] at h; exact (cell_same' (h _ (.inr (.inl rfl)))).trans (HB4.out.2.1.at_ rfl)
   have f10 : ∀ W, S0 W → W.cell? ⟨w.heap.size + 1, 6, none⟩ = some (.int .i64 q.level) := fun W h => by rw [hS0] at h; exact (cell_same' (h _ (.inr (.inl rfl)))).trans (HB4.out.2.1.at_ rfl)
   have f11 : ∀ W, S0 W → W.cell? ⟨w.heap.size + 1, 7, none⟩ = some (.int .i64 q.birth) := fun W h => by rw [hS0] at h; exact (cell_same' (h _ (.inr (.inl rfl)))).trans (HB4.out.2.1.at_ rfl)
   have f12 : ∀ W, S0 W → W.cell? ⟨w.heap.size + 1, 8, none⟩ = some (.int .u64 q.s0) := fun W h => by rw [hS0] at h; exact (cell_same' (h _ (.inr (.inl rfl)))).trans (HB4.out.2.1.at_ rfl)
   have f13 : ∀ W, S0 W → W.cell? ⟨w.heap.size + 1, 9, none⟩ = some (.int .u64 q.s1) := fun W h => by rw [hS0] at h; exact (cell_same' (h _ (.inr (.inl rfl)))).trans (HB4.out.2.1.at_ rfl)
   have f14 : ∀ W, S0 W → W.cell? ⟨w.heap.size + 1, 10, none⟩ = some (.int .u64 q.s2) := fun W h => by rw [hS0] at h; exact (cell_same' (h _ (.inr (.inl rfl)))).trans (HB4.out.2.1.at_ rfl)
   have f15 : ∀ W, S0 W → W.cell? ⟨w.heap.size + 1, 11, none⟩ = some (.int .u64 q.s3) := fun W h => by rw [hS0] at h; exact (cell_same' (h _ (.inr (.inl rfl)))).trans (HB4.out.2.1.at_ rfl)
   have f16 : ∀ W, S0 W → W.cell? ⟨w3.heap.size, 0, none⟩ = some (str ct) := fun W h => by rw [hS0] at h; exact (cell_same' (h _ (.inr (.inr rfl)))).trans (HB4.out.2.2.2.at_ rfl)
   have hSw : S0 w4.drew := hS1 _ (Only.drew (stays_refl _))
   have hl2 := plsL_len q
   have HPL := Lib.hid (places2_any q w4.drew)
   have HS1 := Lib.hid hS1
   have HV4 := Lib.hid hV4
   have HSHH := Lib.hid (And.intro hq (And.intro hfd hKc))
   simp only [if_true]
   clear hKc hsh hfd hq hU2 hV4 hu hS0 hS1 hpl2
   go_wp2_with fail
   rw [HW4.out]
   clear x0 x1 x2 x3 p0 p1 p2 p3 p4 p5 p6 p7 p8 p9 p10 p11 m0 m1 m2 m3
   refine G.wp_region_eff S0 [5, 7] 8 (by kernel_rfl) (by kernel_rfl) (by kernel_rfl) hSw ?_
   simp only [List.take_succ_cons, List.take_zero, List.drop_succ_cons, List.drop_zero]
   refine G.wpLexE_take 5 (by kernel_rfl) (by kernel_rfl) ?_
   simp only [List.take_succ_cons, List.take_zero, List.drop_succ_cons, List.drop_zero]
   repeat (first | go_big_quiet_skip | (go_big_quiet_want; go_big_quiet_op; first | go_big_quiet_on | (apply Exists.intro; refine ⟨fun W hW => ?_, ?_⟩; (focus ((first | exact rfl | exact ⟨rfl, rfl⟩ | (simp only [f0 W hW, f1 W hW, f2 W hW, f3 W hW, f4 W hW, f5 W hW, f6 W hW, f7 W hW, f8 W hW, f9 W hW, f10 W hW, f11 W hW, f12 W hW, f13 W hW, f14 W hW, f15 W hW, f16 W hW, Result.andThen_ok]; first | done | exact ⟨trivial, rfl⟩ | exact rfl | exact ⟨rfl, rfl⟩) | (skip)); done)); go_big_quiet_on)))
   refine wpQuiet_nil ?_
   show G.wpLexE _ _ _ _ _ _ _ _ _
   refine G.wpLexE_effg (by kernel_rfl) rfl ?_
   clear f1 f2 f3 f4 f5 f6 f7 f8 f9 f10 f11 f12 f13 f14 f15 f16
   go_wp2_with fail
   refine HPL.out.mono ?_
   rintro e wp ⟨⟨pv, rfl, hsl, hnew⟩, hbp⟩
   obtain ⟨Ap, cp, rfl⟩ := hsl.form
   have hbp' : Below w4.heap.size w4 wp := ⟨hbp.os, hbp.tape, hbp.output, hbp.size, fun i hi => hbp.block i hi⟩
   have hSp : S0 wp := HS1.out _ (stays_below hbp')
   have HMD := mended_any (HV4.out.below hbp') few HH.out.2 hN q HSHH.out.1 ct HSHH.out.2.1.1 HSHH.out.2.1.2 (plsL q).length (Nat.le_refl _)
   rw [HSHH.out.2.2, HK.out.2.1, HK.out.2.2] at HMD
   have HMD := Lib.hid HMD
   have HBP := Lib.hid hbp'
   clear hbp hbp' hsl hnew hSw
   obtain ⟨np, hnp⟩ : ∃ np, (plsL q).length = np := ⟨_, rfl⟩
   rw [hnp] at HMD
   rw [hnp]
   clear hnp hl2
   go_wp2_with fail
   refine ⟨rfl, hSp, ?_⟩
   refine G.wpLexE_take 1 (by kernel_rfl) (by kernel_rfl) ?_
   simp only [List.take_succ_cons, List.take_zero, List.drop_succ_cons, List.drop_zero]
   repeat (first | go_big_quiet_skip | (go_big_quiet_want; go_big_quiet_op; first | go_big_quiet_on | (apply Exists.intro; refine ⟨fun W hW => ?_, ?_⟩; (focus ((first | exact rfl | exact ⟨rfl, rfl⟩ | (simp only [f0 W hW, Result.andThen_ok]; first | done | exact ⟨trivial, rfl⟩ | exact rfl | exact ⟨rfl, rfl⟩) | (skip)); done)); go_big_quiet_on)))
   refine wpQuiet_nil ?_
   show G.wpLexE _ _ _ _ _ _ _ _ _
   refine G.wpLexE_effg (by kernel_rfl) rfl ?_
   clear f0
   go_wp2_with fail
   refine HMD.out.mono ?_
   rintro e w5 ⟨rfl, ⟨S5, hV5⟩, hst5⟩
   have hst5 : Stays U2 w4 w5 := (stays_below HBP.out).trans hst5
   have hS5 : S0 w5 := HS1.out _ hst5
   clear hSp HMD
   have c5 : Blk w5 w3.heap.size 45 #[str ct, .int .i64 cpl, .int .i64 cdv, .int .i64 0] := (hst5.heap HU.out.2.2.2.1 HB4.out.2.2.2.lt).trans HB4.out.2.2.2
   have r5 : Blk w5 (w.heap.size + 1 + 1) 45 #[str [], .int .i64 0, .int .i64 0, .int .i64 0] := (hst5.heap HU.out.2.2.1 HB4.out.2.2.1.lt).trans HB4.out.2.2.1
   have hs35 : w.heap.size + 1 + 1 < w3.heap.size := HS3.out
   obtain ⟨w6, hw6⟩ : ∃ z, w5.setCell ⟨w3.heap.size, 3, none⟩ (.int .i64 nn) = z := ⟨_, rfl⟩
   have c6 : Blk w6 w3.heap.size 45 #[str ct, .int .i64 cpl, .int .i64 cdv, .int .i64 nn] := by rw [← hw6]; exact c5.put 3 (.int .i64 nn)
   have r6 : Blk w6 (w.heap.size + 1 + 1) 45 #[str [], .int .i64 0, .int .i64 0, .int .i64 0] := by rw [← hw6]; exact r5.far (by intro hh; dsimp only at hh; omega) _
   have m3 := c5.at_ (i := 3) (v := .int .i64 0) rfl
   have g3' := c5.fr 3
   have n0 := c6.at_ (i := 0) (v := str ct) rfl
   have n1 := c6.at_ (i := 1) (v := .int .i64 cpl) rfl
   have n2 := c6.at_ (i := 2) (v := .int .i64 cdv) rfl
   have n3 := c6.at_ (i := 3) (v := .int .i64 nn) rfl
   rw [← hw6] at n0 n1 n2 n3
   have hz := r6
   rw [← hw6] at hz
   have z0 := (hz).at_ (i := 0) (v := str []) rfl
   have z1 := (hz).at_ (i := 1) (v := .int .i64 0) rfl
   have z2 := (hz).at_ (i := 2) (v := .int .i64 0) rfl
   have z3 := (hz).at_ (i := 3) (v := .int .i64 0) rfl
   have g0 := (hz).fr 0
   have g1 := (hz).fr 1
   have g2 := (hz).fr 2
   have g3 := (hz).fr 3
   have HF := Lib.hid (And.intro hV5 (And.intro hst5 (And.intro c6 r6)))
   have HW6 := Lib.hid hw6
   clear hV5 hst5 c5 r5 c6 r6 hw6 hz
   go_wp2_with fail
   refine ⟨rfl, hS5, ?_⟩
   show wpList _ _ _ _ _ _
   clear hS5
   go_wp2_with fail
   rw [HW6.out]
   have hP := ((((HF.out.2.2.2).put 0 (str ct)).put 1 (.int .i64 cpl)).put 2 (.int .i64 cdv)).put 3 (.int .i64 nn)
   have e0 := hP.at_ (i := 0) (v := str ct) rfl
   have e1 := hP.at_ (i := 1) (v := .int .i64 cpl) rfl
   have e2 := hP.at_ (i := 2) (v := .int .i64 cdv) rfl
   have e3 := hP.at_ (i := 3) (v := .int .i64 nn) rfl
   refine bodyPost_ret (v := .tuple #[.agg #[str ct, .int .i64 cpl, .int .i64 cdv, .int .i64 nn], .int .i64 0]) (by simp [results, Tryz.f13, go_sem, e0, e1, e2, e3]) rfl ⟨rfl, ⟨S5, ?_⟩, ?_⟩
   · refine (HF.out.1.only (T := fun g => w.heap.size + 1 + 1 = g ∨ g = w3.heap.size) ?_ (fun g hg => ?_)).narrow (fun b hb => HU.out.2.2.2.2 b hb) HH.out.1.ug HH.out.1.ul HH.out.1.ua
     · rw [← HW6.out]
       exact (((((Only.refl _ _).set (.inl (.inr rfl)) _).set (.inl (.inl rfl)) _).set (.inl (.inl rfl)) _).set (.inl (.inl rfl)) _).set (.inl (.inl rfl)) _
     · have h1 := HH.out.1.us _ HH.out.1.ug
       have h2 := HH.out.1.us _ HH.out.1.ul
       have h3 := HH.out.1.us _ HH.out.1.ua
       have h4 := HS3.out
       rcases hg with hg | hg
       · subst hg
         exact ⟨HU.out.2.2.1, by omega, by omega, by omega⟩
       · subst hg
         exact ⟨HU.out.2.2.2.1, by omega, by omega, by omega⟩
   · refine (stays_below HD4.out).trans ((HF.out.2.1.mono HU.out.2.2.2.2).trans ?_)
     rw [← HW6.out]
     have hnu : ∀ g, w.heap.size ≤ g → ¬ U g := fun g hg hu => by have := HH.out.1.us g hu; omega
     have h4 := HS3.out
     exact (((((Only.refl _ _).set (.inl (hnu _ (by show _ ≤ w3.heap.size; omega))) _).set (.inl (hnu _ (by show _ ≤ w.heap.size + 1 + 1; omega))) _).set (.inl (hnu _ (by show _ ≤ w.heap.size + 1 + 1; omega))) _).set (.inl (hnu _ (by show _ ≤ w.heap.size + 1 + 1; omega))) _).set (.inl (hnu _ (by show _ ≤ w.heap.size + 1 + 1; omega))) _
 · have hz := HB4.out.2.2.1
   rw [← HW4.out] at hz
   have z0 := (hz).at_ (i := 0) (v := str []) rfl
   have z1 := (hz).at_ (i := 1) (v := .int .i64 0) rfl
   have z2 := (hz).at_ (i := 2) (v := .int .i64 0) rfl
   have z3 := (hz).at_ (i := 3) (v := .int .i64 0) rfl
   have g0 := (hz).fr 0
   have g1 := (hz).fr 1
   have g2 := (hz).fr 2
   have g3 := (hz).fr 3
   have HNE := Lib.hid her
   have hner : (er == 0) = false := beq_eq_false_iff_ne.2 her
   clear her hz
   go_wp2_with fail
   rw [HW4.out]
   have hP := ((((HB4.out.2.2.1).put 0 (str ct)).put 1 (.int .i64 cpl)).put 2 (.int .i64 cdv)).put 3 (.int .i64 0)
   have e0 := hP.at_ (i := 0) (v := str ct) rfl
   have e1 := hP.at_ (i := 1) (v := .int .i64 cpl) rfl
   have e2 := hP.at_ (i := 2) (v := .int .i64 cdv) rfl
   have e3 := hP.at_ (i := 3) (v := .int .i64 0) rfl
   refine bodyPost_ret (v := .tuple #[.agg #[str ct, .int .i64 cpl, .int .i64 cdv, .int .i64 0], .int .i64 er]) (by simp [results, Tryz.f13, go_sem, e0, e1, e2, e3]) rfl ⟨by rfl, ⟨S, ?_⟩, ?_⟩
   · obtain ⟨U2, hU2⟩ : ∃ U2, U2 = more U w w4 := ⟨_, rfl⟩
     have hV4 : VdIn w4 S U2 y aw ds := by rw [hU2]; exact HH.out.1.more HD4.out
     have hu2 : U2 (w.heap.size + 1 + 1) := by rw [hU2]; exact .inr ⟨by omega, HB4.out.2.2.1.lt⟩
     have hu3 : ∀ b, U b → U2 b := by rw [hU2]; exact fun b hb => .inl hb
     refine (hV4.only (T := fun g => w.heap.size + 1 + 1 = g) ?_ (fun g hg => ?_)).narrow hu3 HH.out.1.ug HH.out.1.ul HH.out.1.ua
     · have hT : ∀ o, (fun g => w.heap.size + 1 + 1 = g) (⟨w.heap.size + 1 + 1, o, none⟩ : Addr).block ∨ w4.heap.size ≤ (⟨w.heap.size + 1 + 1, o, none⟩ : Addr).block := fun o => .inl rfl
       exact ((((Only.refl (fun g => w.heap.size + 1 + 1 = g) w4).set (hT 0) _).set (hT 1) _).set (hT 2) _).set (hT 3) _
     · subst hg
       have h1 := HH.out.1.us _ HH.out.1.ug
       have h2 := HH.out.1.us _ HH.out.1.ul
       have h3 := HH.out.1.us _ HH.out.1.ua
       exact ⟨hu2, by omega, by omega, by omega⟩
   · exact stays_below (below_set (below_set (below_set (below_set HD4.out _ _ _ (by omega)) _ _ _ (by omega)) _ _ _ (by omega)) _ _ _ (by omega))
end Go.Proofs.YtbhkbcpljakmjaaGreat

namespace Go.Proofs.YtbhkbcpljakmjaaGreat
set_option linter.unusedVariables false
set_option linter.unusedSimpArgs false
open Go.RowKit
def withSum (p : PtrD) (s : List UInt8) : PtrD := { p with size := secN s, s0 := (fsum s).1, s1 := (fsum s).2.1, s2 := (fsum s).2.2.1, s3 := (fsum s).2.2.2 }
def wrAll (gs : List (Int × Int)) (secs : Int) (aw : List Bool) (s : List UInt8) (l : List PlX) (ds : List DevD) : List DevD := l.foldl (fun ds pl => wD gs secs pl.1 pl.2 s aw ds) ds
theorem wrAll_snoc (gs : List (Int × Int)) (secs : Int) (aw : List Bool) (s : List UInt8) (l : List PlX) (pl : PlX) (ds : List DevD) : wrAll gs secs aw s (l ++ [pl]) ds = wD gs secs pl.1 pl.2 s aw (wrAll gs secs aw s l ds) := by
 unfold wrAll
 rw [List.foldl_append]
 rfl
section
variable {gs : List (Int × Int)} {secs : Int} {aw : List Bool} {s : List UInt8}
theorem wD_len {pg pa : Int} {ds : List DevD} : (wD gs secs pg pa s aw ds).length = ds.length := by
 unfold wD
 split
 · exact wrTo_len _
 · rfl
theorem wD_hereD {pg pa : Int} {ds : List DevD} (i : Nat) : hereD aw (wD gs secs pg pa s aw ds) i = hereD aw ds i := by
 unfold wD
 split
 · exact wrTo_hereD _ _
 · rfl
theorem wD_ok {pg pa : Int} {ds : List DevD} {N sc : Nat} (h : DsOk N sc ds) : DsOk (N + 64) sc (wD gs secs pg pa s aw ds) := by
 unfold wD
 split
 · exact (wrTo_ok h _).mono (by have := ofList_le gs secs pg pa (secN s); omega)
 · exact h.mono (by omega)
theorem wrAll_len : ∀ (l : List PlX) (ds : List DevD), (wrAll gs secs aw s l ds).length = ds.length
 | [], _ => rfl
 | p :: l, ds => by
   show (wrAll gs secs aw s l _).length = _
   rw [wrAll_len l, wD_len]
theorem wrAll_hereD (i : Nat) : ∀ (l : List PlX) (ds : List DevD), hereD aw (wrAll gs secs aw s l ds) i = hereD aw ds i
 | [], _ => rfl
 | p :: l, ds => by
   show hereD aw (wrAll gs secs aw s l _) i = _
   rw [wrAll_hereD i l, wD_hereD]
theorem wrAll_ok {sc : Nat} : ∀ (l : List PlX) (ds : List DevD) {N : Nat}, DsOk N sc ds → DsOk (N + 64 * l.length) sc (wrAll gs secs aw s l ds)
 | [], _, _, h => h
 | p :: l, ds, N, h => by
   have := wrAll_ok (sc := sc) l _ (wD_ok (gs := gs) (secs := secs) (aw := aw) (s := s) (pg := p.1) (pa := p.2) h)
   rw [List.length_cons, show N + 64 * (l.length + 1) = N + 64 + 64 * l.length by omega]
   exact this
end
theorem failN_all {L : List Col} {hs : Nat → Bool} {n : Nat} (h : ∀ i, i < n → hs i = true) : failN L hs n = 0 := by
 unfold failN failL
 rw [List.length_eq_zero_iff, List.filter_eq_nil_iff]
 intro i hi
 rw [h i (List.mem_range.1 hi)]
 simp
theorem wE_all {gs : List (Int × Int)} {secs pg pa : Int} {s : List UInt8} {hs : Nat → Bool} {n : Nat} (h2 : secOk s = true) (h3 : cMay gs secs pg pa (secN s) = true) (h : ∀ i, i < n → hs i = true) : wE gs secs pg pa s hs n = 0 := by
 have hE := enc_pl (pl := (pg, pa)) h2 h3
 unfold wE
 rw [if_pos hE, failN_all h]
 have : lostB (grAt gs pg) 0 = false := by
  obtain ⟨g, x, rfl, _, _, _, _, _, hgx, ho⟩ := gHas_true (cMay_true h3).1
  rw [hgx]
  have := gOne_true ho
  unfold lostB
  rcases this with ⟨h1, h2, _⟩ | ⟨h1, h2, _⟩
  · rw [h1]
    simp
    omega
  · rw [h1]
    simp
 rw [this]
 rfl
def loT (ll : List Bool) (D : List DevD) (k : Nat) : List DevD := D.mapIdx fun i d => if decide (i < k) && bAt ll i then d.lose else d
section
variable {ll : List Bool} {D : List DevD} {k : Nat}
theorem loT_zero : loT ll D 0 = D := by
 unfold loT
 apply List.ext_getElem?
 intro i
 rw [List.getElem?_mapIdx]
 cases D[i]? <;> simp
theorem loT_len : (loT ll D k).length = D.length := by simp [loT]
theorem loT_at {i : Nat} {d : DevD} (h : D[i]? = some d) : (loT ll D k)[i]? = some (if decide (i < k) && bAt ll i then d.lose else d) := by
 unfold loT
 rw [List.getElem?_mapIdx, h]
 rfl
theorem loT_no (h : bAt ll k = false) : loT ll D (k + 1) = loT ll D k := by
 apply List.ext_getElem?
 intro i
 cases hd : D[i]? with
 | none =>
  rw [List.getElem?_eq_none_iff] at hd
  rw [List.getElem?_eq_none (by rw [loT_len]; exact hd), List.getElem?_eq_none (by rw [loT_len]; exact hd)]
 | some d =>
  rw [loT_at hd, loT_at hd]
  by_cases e : i = k
  · subst e; simp [h]
  · rw [show decide (i < k + 1) = decide (i < k) from decide_eq_decide.2 (by omega)]
theorem loT_yes {d : DevD} (hd : D[k]? = some d) (h : bAt ll k = true) : loT ll D (k + 1) = (loT ll D k).set k d.lose := by
 apply List.ext_getElem?
 intro i
 rw [List.getElem?_set, loT_len]
 cases hi : D[i]? with
 | none =>
  have hne : k ≠ i := by
   rintro rfl
   rw [hd] at hi
   cases hi
  rw [List.getElem?_eq_none_iff] at hi
  rw [if_neg hne, List.getElem?_eq_none (by rw [loT_len]; exact hi), List.getElem?_eq_none (by rw [loT_len]; exact hi)]
 | some e =>
  rw [loT_at hi, loT_at hi]
  by_cases hk : k = i
  · subst hk
    rw [hd] at hi
    cases hi
    simp [h, (List.getElem?_eq_some_iff.1 hd).1]
  · rw [if_neg hk, show decide (i < k + 1) = decide (i < k) from decide_eq_decide.2 (by omega)]
theorem loT_ok {N secs : Nat} (h : DsOk N secs D) (k : Nat) : DsOk N secs (loT ll D k) := fun d hd => by
 obtain ⟨i, hi⟩ := List.mem_iff_getElem?.1 hd
 have hlt : i < D.length := by have := (List.getElem?_eq_some_iff.1 hi).1; rwa [loT_len] at this
 have hD : D[i]? = some D[i] := List.getElem?_eq_getElem hlt
 rw [loT_at hD] at hi
 obtain ⟨h1, h2, h3, h4⟩ := h D[i] (List.getElem_mem hlt)
 split at hi
 · cases hi
   exact ⟨h1.lose, h2, h3, fun k => Nat.zero_le _⟩
 · cases hi
   exact ⟨h1, h2, h3, h4⟩
end
theorem hereD_lo {al ll : List Bool} {D : List DevD} {n k : Nat} {d : DevD} (hk : k < n) (hd : D[k]? = some d) (hl : d.lost = false) : hereD (awT al n (k + 1)) (loT ll D (k + 1)) k = (!bAt al k && !bAt ll k) := by
 unfold hereD
 rw [loT_at hd, List.getD_eq_getElem?_getD, awT_at hk]
 simp only [Nat.lt_succ_self, decide_true, Bool.true_and, Option.getD_some]
 cases bAt ll k with
 | true => simp [DevD.lose]
 | false => simp [hl]
theorem awT_none {al : List Bool} {n : Nat} : awT [] n n = awT al n 0 := by
 rw [awT_zero]
 unfold awT bAt
 simp [List.map_const']
theorem lsT_none {D : DevD} {n : Nat} : lsT [] D n n = List.replicate n D := by
 unfold lsT bAt
 simp [List.map_const']
end Go.Proofs.YtbhkbcpljakmjaaGreat
