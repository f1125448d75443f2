/-
  The walk of NodeItems.
-/
import Derived.Test.YtkmmehhddagijaaDoorNodeTextsW
namespace Go.Proofs.YtkmmehhddagijaaDoor
set_option linter.unusedVariables false
set_option linter.unusedSimpArgs false
open Go.RowKit

theorem part4 (p q r s : PtrD) (W : World) : (part 36 (ptrs4 p q r s) 0).run Tryd.prog W = .ok (.agg #[.int .i64 p.ag, .int .i64 p.aa, .int .i64 p.bg, .int .i64 p.ba, .bool p.two, .int .i64 p.size, .int .i64 p.level, .int .i64 p.birth, .int .u64 p.s0, .int .u64 p.s1, .int .u64 p.s2, .int .u64 p.s3]) W ∧ (part 36 (ptrs4 p q r s) 12).run Tryd.prog W = .ok (.agg #[.int .i64 q.ag, .int .i64 q.aa, .int .i64 q.bg, .int .i64 q.ba, .bool q.two, .int .i64 q.size, .int .i64 q.level, .int .i64 q.birth, .int .u64 q.s0, .int .u64 q.s1, .int .u64 q.s2, .int .u64 q.s3]) W ∧
    (part 36 (ptrs4 p q r s) 24).run Tryd.prog W = .ok (.agg #[.int .i64 r.ag, .int .i64 r.aa, .int .i64 r.bg, .int .i64 r.ba, .bool r.two, .int .i64 r.size, .int .i64 r.level, .int .i64 r.birth, .int .u64 r.s0, .int .u64 r.s1, .int .u64 r.s2, .int .u64 r.s3]) W ∧ (part 36 (ptrs4 p q r s) 36).run Tryd.prog W = .ok (.agg #[.int .i64 s.ag, .int .i64 s.aa, .int .i64 s.bg, .int .i64 s.ba, .bool s.two, .int .i64 s.size, .int .i64 s.level, .int .i64 s.birth, .int .u64 s.s0, .int .u64 s.s1, .int .u64 s.s2, .int .u64 s.s3]) W :=
  ⟨by kernel_rfl, by kernel_rfl, by kernel_rfl, by kernel_rfl⟩
theorem eqIn_same (p q r s : PtrD) (d : Nat) (w : World) : (Op.equalIn (d + 4) 37 (.agg (ptrs4 p q r s)) (.agg (ptrs4 p q r s))).run Tryd.prog w = .ok true w := by
  have h0 := fun W => (part4 p q r s W).1
  have h1 := fun W => (part4 p q r s W).2.1
  have h2 := fun W => (part4 p q r s W).2.2.1
  have h3 := fun W => (part4 p q r s W).2.2.2
  have hp : ∀ (x : PtrD) (W : World), (Op.equalIn (d + 3) 36 (.agg #[.int .i64 x.ag, .int .i64 x.aa, .int .i64 x.bg, .int .i64 x.ba, .bool x.two, .int .i64 x.size, .int .i64 x.level, .int .i64 x.birth, .int .u64 x.s0, .int .u64 x.s1, .int .u64 x.s2, .int .u64 x.s3]) (.agg #[.int .i64 x.ag, .int .i64 x.aa, .int .i64 x.bg, .int .i64 x.ba, .bool x.two, .int .i64 x.size, .int .i64 x.level, .int .i64 x.birth, .int .u64 x.s0, .int .u64 x.s1, .int .u64 x.s2, .int .u64 x.s3])).run Tryd.prog W = .ok true W := fun x W => by rw [eqIn_ptr]; unfold ptrEq; rw [decide_eq_true rfl]
  rw [Op.equalIn]
  simp only [Sem.run_bind, run_underlying Tryd.underlying37, Result.andThen_ok]
  simp only [Sem.run_bind, Tryd.sizeOf36, Result.andThen_ok, Std.Legacy.Range.forIn_eq_forIn_range', Std.Legacy.Range.size, List.range', List.forIn_cons, List.forIn_nil, Nat.reduceMul, Nat.reduceAdd, Nat.reduceSub, Nat.reduceDiv, Nat.zero_mul, Bool.not_true, Bool.false_eq_true, ↓reduceIte, Sem.run_pure, h0, h1, h2, h3, hp]
theorem eql_same (p q r s : PtrD) (w : World) : (binOp .eql 37 (.agg (ptrs4 p q r s)) (.agg (ptrs4 p q r s))).run Tryd.prog w = .ok (.bool true) w := by
  simp only [binOp]
  simp [Op.equal, Op.maxDepth, eqIn_same p q r s 9996]
theorem build_ix (p q r s : PtrD) (W : World) : (Instr.build 43 #[(0, .agg (ptrs4 p q r s))]).run Tryd.prog W = .ok (.agg (ptrs4 p q r s)) W := by kernel_rfl
theorem ptrs4_one (p q r s : PtrD) : (ptrs4 p q r s).all (·.oneCell') = true := by kernel_rfl
theorem ok_data (v : Value) (w : World) : (Instr.typeAssert (.iface 39 v) 24 39 true).run Tryd.prog w = .ok (.tuple #[v, .bool true]) w := by
  simp [Instr.typeAssert, run_underlying Tryd.underlying39, go_sem]
theorem ok_index (v : Value) (w : World) : (Instr.typeAssert (.iface 43 v) 24 43 true).run Tryd.prog w = .ok (.tuple #[v, .bool true]) w := by
  simp [Instr.typeAssert, run_underlying Tryd.underlying43, go_sem]
theorem quiet_loadAt {P : Program} {a : Act} {C : World → Prop} {o : Oper} {K : Act → Prop} (ty : TypeId) (x : Operand) (ho : o.op = .load ty x) (v p : Value) (hx : a.eval x = p) (h : ∀ W, C W → (Instr.loadAt ty p).run P W = .ok v W) (hk : K (a.put o.dst v)) : o.quiet P a C K :=
  ⟨v, fun W hW => by
    unfold Oper.quietAt execOp
    simp only [ho, hx, Sem.run_bind, h W hW, Sem.run_pure, Result.andThen_ok]
    exact ⟨rfl, rfl⟩, hk⟩
theorem range_below {w w' : World} {b o : Nat} {cs : List Value} (h : w.rangeAt b o cs) (hb : Below w.heap.size w w') (hlt : b < w.heap.size) : w'.rangeAt b o cs := fun j v hv => keep_cell hb (h j v hv) hlt
theorem Blk.range {w : World} {g : Nat} {t : TypeId} {cs : Array Value} (h : Blk w g t cs) : w.rangeAt g 0 cs.toList := fun j v hv => by
  rw [Nat.zero_add]; exact h.at_ (by simpa using hv)
theorem Blk.loadAt {P : Program} {w : World} {g : Nat} {t ty : TypeId} {cs : Array Value} {d : TypeDesc} (h : Blk w g t cs) (hu : P.underlying ty = some d) (hd : (match d with | .struct _ | .array _ _ => true | _ => false) = true) (hi : (P.info? ty).map (·.size) = some cs.size) :
    (Instr.loadAt ty (.pointer (some ⟨g, 0, none⟩))).run P w = .ok (.agg cs) w := by
  simp only [Instr.loadAt, Instr.sureAddr, Sem.run_bind, Sem.run_pure, Result.andThen_ok, run_loadVar_row w g t ty cs (0, 0) d h hu hd hi]
theorem hText_any (w : World) : Calls Tryd.prog 11 #[.agg #[]] w fun e w' => e = .returned (str []) ∧ Below w.heap.size w w' := by
  go_enter Tryd.func11, Tryd.ntmps11
  go_wp2_with fail
  go_ret
  exact ⟨rfl, (Below.refl _ _).alloc (Nat.le_refl _) _⟩

/-- What is laid is read as it was. -/
theorem idx_back {p q r s : PtrD} (o1 : p.Ok) (o2 : q.Ok) (o3 : r.Ok) (o4 : s.Ok) (h : itL p q r s ≠ []) :
    (itL p q r s).length = 256 ∧ idxE (itL p q r s) = 0 ∧ idxV (itL p q r s) = .iface 43 (.agg (ptrs4 p q r s)) := by
  have hall : (layOk p && layOk q && layOk r && layOk s) = true := by
    unfold itL at h
    by_cases hx : (layOk p && layOk q && layOk r && layOk s) = true
    · exact hx
    · rw [if_neg hx] at h; exact absurd rfl h
  have he : itL p q r s = ptrL p ++ (ptrL q ++ (ptrL r ++ ptrL s)) := by
    unfold itL; rw [if_pos hall]; simp [itTo]
  simp only [Bool.and_eq_true] at hall
  obtain ⟨⟨⟨h1, h2⟩, h3⟩, h4⟩ := hall
  obtain ⟨e1, r1, l1⟩ := lay_back h1 o1
  obtain ⟨e2, r2, l2⟩ := lay_back h2 o2
  obtain ⟨e3, r3, l3⟩ := lay_back h3 o3
  obtain ⟨e4, r4, l4⟩ := lay_back h4 o4
  have hlen : (itL p q r s).length = 256 := by rw [he]; simp [l1, l2, l3, l4]
  generalize itL p q r s = S at *
  have k0 : S.drop 0 = _ := he
  have k1 := drop_step k0 l1
  have k2 := drop_step k1 l2
  have k3 := drop_step k2 l3
  simp only [Nat.zero_add, Nat.reduceAdd] at k1 k2 k3
  have c0 : (S.drop 0).take 64 = ptrL p := by rw [k0, takeApp l1]
  have c1 : (S.drop 64).take 64 = ptrL q := by rw [k1, takeApp l2]
  have c2 : (S.drop 128).take 64 = ptrL r := by rw [k2, takeApp l3]
  have c3 : (S.drop 192).take 64 = ptrL s := by rw [k3]; exact List.take_of_length_le (by omega)
  refine ⟨hlen, ?_, ?_⟩
  · unfold idxE; rw [c0, c1, c2, c3, e1, if_neg (by simp), e2, if_neg (by simp), e3, if_neg (by simp), e4]
  · have ho : okTo S 4 = true := by simp only [okTo]; rw [c0, c1, c2, c3, e1, e2, e3, e4]; rfl
    unfold idxV
    rw [if_pos ho]
    simp only [ixTo]
    rw [c0, c1, c2, c3, r1, r2, r3, r4]

theorem data_pad {s : List UInt8} (h0 : s ≠ []) (hb : s.length ≤ 256) : textL s = s ++ List.replicate (padN s.length 64) 0 ∧ (s ++ List.replicate (padN s.length 64) 0 : List UInt8).length % 64 = 0 ∧ (s ++ List.replicate (padN s.length 64) 0 : List UInt8).length ≤ 256 := by
  have h1 : 0 < s.length := List.length_pos_iff.2 h0
  refine ⟨?_, ?_, ?_⟩
  · unfold textL padL; rw [if_neg (by omega), if_pos (by decide)]; rfl
  · simp only [List.length_append, List.length_replicate, padN]; omega
  · simp only [List.length_append, List.length_replicate, padN]; omega
theorem text_none {s : List UInt8} (h : s = [] ∨ 256 < s.length) : textL s = [] := by
  rcases h with rfl | h
  · decide
  · unfold textL; rw [if_pos h]

set_option maxRecDepth 100000 in
set_option maxHeartbeats 8000000 in
theorem itemsLaw_any (s : List UInt8) (p q r t : PtrD) (lv : Nat) (w : World) (o1 : p.Ok) (o2 : q.Ok) (o3 : r.Ok) (o4 : t.Ok) (h8 : lv ≤ 255) (hl : s.length ≤ 9223372036854775807) :
    Calls Tryd.prog 4 #[str s, .agg (ptrs4 p q r t), .int .u8 lv] w fun e w' => e = .returned (.bool true) ∧ Below w.heap.size w w' := by
  have hwl : IntKind.i64.wrap (lv : Int) = lv := IntWalk.i64_in (lv : Int) (by omega)
  have hi : (Tryd.prog.info? 37).map (·.size) = some (ptrs4 p q r t).size := by rw [ptrs_size4]; kernel_rfl
  have hi2 : (Tryd.prog.info? 43).map (·.size) = some (ptrs4 p q r t).size := by rw [ptrs_size4]; kernel_rfl
  have h1c := ptrs4_one p q r t
  have H48 := Lib.hid (ptrs_size4 p q r t)
  have hbd := build_ix p q r t
  have hq4 := eql_same p q r t
  have HIT := Lib.hid fun W => iText_any p q r t W o1 o2 o3 o4
  have HIB : Hid (itL p q r t ≠ [] → (itL p q r t).length = 256 ∧ idxE (itL p q r t) = 0 ∧ idxV (itL p q r t) = .iface 43 (.agg (ptrs4 p q r t))) := Lib.hid fun h => idx_back o1 o2 o3 o4 h
  have HLK := Lib.hid fun W => links_good (ptrs4 p q r t) W (ptrs_size4 p q r t) (ptrs4_one p q r t)
  generalize ptrs4 p q r t = cs at *
  generalize itL p q r t = U at *
  obtain ⟨w0, hw0⟩ : ∃ w0, w0 = w.alloc (.cells cs 37) := ⟨_, rfl⟩
  have hd0 : Below w.heap.size w w0 := by rw [hw0]; exact (Below.refl _ _).alloc (Nat.le_refl _) _
  have hs0 : w.heap.size < w0.heap.size := by rw [hw0]; simp
  have HB0 : Hid (Blk w0 w.heap.size 37 cs) := by rw [hw0]; exact Lib.hid (Blk.new _ _ _)
  go_enter Tryd.func4, Tryd.ntmps4
  go_wp2_with fail
  rw [← hw0]
  clear hw0
  refine (awake13_any _).mono ?_
  rintro e w1 ⟨rfl, hb1⟩
  have hd1 := keep_below hb1 hd0
  have HB1 := Lib.hid (HB0.out.below hb1 hs0)
  have hs1 : w.heap.size < w1.heap.size := keep_size hb1 hs0
  clear hd0 hs0 HB0 hb1
  by_cases hn : 1000 < s.length
  · go_wp2_with fail
    refine (awake13_any _).mono ?_
    rintro e w2 ⟨rfl, hb2⟩
    go_wp2_with fail
    go_ret
    exact ⟨rfl, keep_below hb2 hd1⟩
  · have HT := Lib.hid fun W => dText_any s W hl
    by_cases hx : s = [] ∨ 256 < s.length
    · have ht := text_none hx
      rw [ht] at HT
      have hc : s.length = 0 ∨ 256 < s.length := by rcases hx with h | h; exact .inl (by rw [h]; rfl); exact .inr h
      have hc2 : (((s.length : Int) == 0) = true) ∨ (((s.length : Int) == 0) = false ∧ 256 < s.length) := by
        rcases hc with h | h
        · exact .inl (by simp [h])
        · exact .inr ⟨by rw [beq_eq_false_iff_ne]; omega, h⟩
      have HRD : Hid (∀ W, Calls Tryd.prog 7 #[str [], .int .i64 0] W fun e w' => e = .returned (.tuple #[.nilIface, .int .i64 3]) ∧ Below W.heap.size W w') := Lib.hid fun W => by
        have := nread_any [] 0 W (by simp)
        rw [(nr_3 (s := []) (lv := 0) (by omega) (.inl rfl)).1, (nr_3 (s := []) (lv := 0) (by omega) (.inl rfl)).2] at this
        exact this
      have hqn : ∀ W, (binOp .neq 24 .nilIface .nilIface).run Tryd.prog W = .ok (.bool false) W := fun W => by kernel_rfl
      clear ht hx hc
      go_wp2_with fail
      refine (HT.out _).mono ?_
      rintro e w2 ⟨rfl, hb2⟩
      have hd2 := keep_below hb2 hd1
      have HB2 := Lib.hid (HB1.out.below hb2 hs1)
      have hs2 : w.heap.size < w2.heap.size := keep_size hb2 hs1
      go_wp2_with fail
      refine (HRD.out _).mono ?_
      rintro e w3 ⟨rfl, hb3⟩
      have hd3 := keep_below hb3 hd2
      have HB3 := Lib.hid (HB2.out.below hb3 hs2)
      have hs3 : w.heap.size < w3.heap.size := keep_size hb3 hs2
      clear hd1 hd2 hs1 hs2 HB1 HB2 hb2 hb3 HT HRD
      rcases hc2 with hz | ⟨hz, hz2⟩
      · have hB3 := HB3.out
        have hth : ∀ Z : Array Value, Z.size = 48 → (w3.alloc (.cells Z 43)).there w3.heap.size 0 cs.size := fun Z hZ => (Blk.new w3 _ Z).there (by rw [H48.out, hZ]; omega)
        have hBI : ∀ Z : Array Value, Z.size = 48 → Blk ((w3.alloc (.cells Z 43)).setCells w3.heap.size 0 cs.toList) w3.heap.size 43 cs := fun Z hZ => (Blk.new w3 _ Z).putAll cs (by rw [H48.out, hZ])
        have hdS : ∀ Z : Array Value, Below w.heap.size w ((w3.alloc (.cells Z 43)).setCells w3.heap.size 0 cs.toList) := fun Z => below_sets _ _ (keep_alloc hd3 _) (by omega)
        have hBS : ∀ Z : Array Value, Blk ((w3.alloc (.cells Z 43)).setCells w3.heap.size 0 cs.toList) w.heap.size 37 cs := fun Z => (HB3.out.alloc _).fars (by omega) _ _
        have HdS := Lib.hid hdS
        have HBS := Lib.hid hBS
        clear hdS hBS
        go_wp2_with (first
          | ((with_reducible refine wpList_load_want ?qw 37 (.tmp 4) ?q2 w.heap.size ?q3 37 cs _ hB3 Tryd.underlying37 rfl hi ?_); (case q2 => rfl); (case q3 => rfl); (case qw => rfl))
          | ((with_reducible refine wpList_build_want ?bq 43 #[(0, .tmp 91)] ?r2 #[(0, .agg cs)] ?r3 (.agg cs) (hbd _) ?_); (case r2 => rfl); (case r3 => simp [Act.eval, Act.put]); (case bq => rfl))
          | ((with_reducible refine wpList_store_mid ?a1 43 (.tmp 12) (.tmp 92) ?a2 w3.heap.size 0 cs ?a3 ?a4 (hth _ rfl) hi2 h1c ?_); (case a1 => rfl); (case a2 => rfl); (case a3 => rfl); (case a4 => rfl))
          | ((with_reducible refine wpList_load_want ?qw 43 (.tmp 12) ?q2 w3.heap.size ?q3 43 cs _ (hBI _ rfl) Tryd.underlying43 rfl hi2 ?_); (case q2 => rfl); (case q3 => rfl); (case qw => rfl)))
        refine (HIT.out _).mono ?_
        rintro e w4 ⟨rfl, hb4⟩
        have hd4 : Below w.heap.size w w4 := keep_below hb4 (HdS.out _)
        have HB4 : Hid (Blk w4 w.heap.size 37 cs) := Lib.hid ((HBS.out _).below hb4 (HBS.out _).lt)
        have hs4 : w.heap.size < w4.heap.size := HB4.out.lt
        clear hth hBI HdS HBS hb4 hB3 HB3 hd3 hs3
        cases hU : U with
        | nil =>
          subst hU
          have HHT := Lib.hid hText_any
          go_wp2_with fail
          refine (HHT.out _).mono ?_
          rintro e w5 ⟨rfl, hb5⟩
          go_wp2_with fail
          go_ret
          exact ⟨ret_bool (by simp), keep_below hb5 hd4⟩
        | cons u0 ur =>
          have hne : U ≠ [] := by rw [hU]; simp
          have hub : (U == []) = false := by rw [hU]; rfl
          have hue : U.isEmpty = false := by rw [hU]; rfl
          rw [← hU]
          clear hU
          obtain ⟨u1, u2, u3⟩ := HIB.out hne
          have HRU : Hid (∀ W, Calls Tryd.prog 7 #[str U, .int .i64 (1 + (lv : Int) % 3)] W fun e w' => e = .returned (.tuple #[.iface 43 (.agg cs), .int .i64 0]) ∧ Below W.heap.size W w') := Lib.hid fun W => by
            have := nread_any U (1 + (lv : Int) % 3) W (by omega)
            have hnb : ¬ nrBad U (1 + (lv : Int) % 3) := by unfold nrBad; simp only [hne, false_or, not_or]; exact ⟨by omega, by omega, by omega⟩
            rw [(nr_i (by omega) hnb (by omega)).1, (nr_i (by omega) hnb (by omega)).2, u2, u3] at this
            exact this
          have hU1 : U.length ≤ 256 := by omega
          have hU2 : 256 ≤ U.length := by omega
          have hoki := fun (W : World) => ok_index (.agg cs) W
          clear u1 u2 u3 hne HIB HIT
          go_wp2_with fail
          refine (HRU.out _).mono ?_
          rintro e w5 ⟨rfl, hb5⟩
          have hd5 := keep_below hb5 hd4
          have HB5 := Lib.hid (HB4.out.below hb5 hs4)
          have hs5 : w.heap.size < w5.heap.size := keep_size hb5 hs4
          clear hb5 HB4 hd4 hs4
          have hth : ∀ Z : Array Value, Z.size = 48 → (w5.alloc (.cells Z 43)).there w5.heap.size 0 cs.size := fun Z hZ => (Blk.new w5 _ Z).there (by rw [H48.out, hZ]; omega)
          have HBJ : Hid (∀ Z : Array Value, Z.size = 48 → Blk ((w5.alloc (.cells Z 43)).setCells w5.heap.size 0 cs.toList) w5.heap.size 43 cs) := Lib.hid fun Z hZ => (Blk.new w5 _ Z).putAll cs (by rw [H48.out, hZ])
          have HdS : Hid (∀ Z : Array Value, Below w.heap.size w ((w5.alloc (.cells Z 43)).setCells w5.heap.size 0 cs.toList)) := Lib.hid fun Z => below_sets _ _ (keep_alloc hd5 _) (by omega)
          have HBS : Hid (∀ Z : Array Value, Blk ((w5.alloc (.cells Z 43)).setCells w5.heap.size 0 cs.toList) w.heap.size 37 cs) := Lib.hid fun Z => (HB5.out.alloc _).fars (by omega) _ _
          go_wp2_with ((with_reducible refine wpList_store_mid ?a1 43 (.tmp 16) (.tmp 114) ?a2 w5.heap.size 0 cs ?a3 ?a4 (hth _ rfl) hi2 h1c ?_); (case a1 => rfl); (case a2 => rfl); (case a3 => rfl); (case a4 => rfl))
          obtain ⟨w6, hw6⟩ : ∃ w6, w6 = (w5.alloc (.cells #[.int .i64 0, .int .i64 0, .int .i64 0, .int .i64 0, .bool false, .int .i64 0, .int .i64 0, .int .i64 0, .int .u64 0, .int .u64 0, .int .u64 0, .int .u64 0, .int .i64 0, .int .i64 0, .int .i64 0, .int .i64 0, .bool false, .int .i64 0, .int .i64 0, .int .i64 0, .int .u64 0, .int .u64 0, .int .u64 0, .int .u64 0, .int .i64 0, .int .i64 0, .int .i64 0, .int .i64 0, .bool false, .int .i64 0, .int .i64 0, .int .i64 0, .int .u64 0, .int .u64 0, .int .u64 0, .int .u64 0, .int .i64 0, .int .i64 0, .int .i64 0, .int .i64 0, .bool false, .int .i64 0, .int .i64 0, .int .i64 0, .int .u64 0, .int .u64 0, .int .u64 0, .int .u64 0] 43)).setCells w5.heap.size 0 cs.toList := ⟨_, rfl⟩
          have hd6 : Below w.heap.size w w6 := by rw [hw6]; exact HdS.out _
          have hBJ6 : Blk w6 w5.heap.size 43 cs := by rw [hw6]; exact HBJ.out _ rfl
          have hBS6 : Blk w6 w.heap.size 37 cs := by rw [hw6]; exact HBS.out _
          rw [← hw6]
          clear hw6 hth HBJ HdS HBS hd5 HB5 HRU hoki
          obtain ⟨C, hC, hC0, hCB, hCK, hCd⟩ := cls_below w6
          have fL : ∀ W, C W → (Instr.loadAt 37 (.pointer (some ⟨w.heap.size, 0, none⟩))).run Tryd.prog W = .ok (.agg cs) W := fun W h => (hBS6.below (hCB W h) hBS6.lt).loadAt Tryd.underlying37 rfl hi
          have fJ : ∀ W, C W → (Instr.loadAt 37 (.pointer (some ⟨w5.heap.size, 0, none⟩))).run Tryd.prog W = .ok (.agg cs) W := fun W h => (hBJ6.below (hCB W h) hBJ6.lt).loadAt Tryd.underlying37 rfl hi
          clear hBJ6 hBS6
          refine wp_region_cls C (by kernel_rfl) (by kernel_rfl) hC ?_
          repeat (first
            | go_big_quiet_skip
            | (go_big_quiet_want; refine quiet_loadAt 37 (.tmp 118) (by rfl) (.agg cs) _ (by rfl) fJ ?_; simp only [Act.put, List.setIfInBounds_toArray, List.set_cons_zero, List.set_cons_succ]; go_big_quiet_on)
            | (go_big_quiet_want; refine quiet_loadAt 37 (.tmp 4) (by rfl) (.agg cs) _ (by rfl) fL ?_; simp only [Act.put, List.setIfInBounds_toArray, List.set_cons_zero, List.set_cons_succ]; go_big_quiet_on)
            | (go_big_quiet_want
               go_big_quiet_op
               first
                 | go_big_quiet_on
                 | (apply Exists.intro
                    refine ⟨fun W hW => ?_, ?_⟩
                    · first
                        | exact rfl
                        | exact ⟨rfl, rfl⟩
                        | (simp only [Result.andThen_ok]; done)
                        | (simp only [Result.andThen_ok]; first | exact ⟨trivial, rfl⟩ | exact rfl | exact ⟨rfl, rfl⟩)
                        | ((refine (HLK.out W).mono ?_; rintro e w' ⟨rfl, hb⟩; exact ⟨rfl, hCK _ _ hW hb⟩))
                    go_big_quiet_on)))
          refine wpQuiet_nil ?_
          intro v4 hv4
          have hwB := hCB v4 hv4
          go_wp2_with fail
          go_ret
          exact ⟨ret_bool (by simp; omega), keep_below hwB hd6⟩
      · have hB3 := HB3.out
        have hth : ∀ Z : Array Value, Z.size = 48 → (w3.alloc (.cells Z 43)).there w3.heap.size 0 cs.size := fun Z hZ => (Blk.new w3 _ Z).there (by rw [H48.out, hZ]; omega)
        have hBI : ∀ Z : Array Value, Z.size = 48 → Blk ((w3.alloc (.cells Z 43)).setCells w3.heap.size 0 cs.toList) w3.heap.size 43 cs := fun Z hZ => (Blk.new w3 _ Z).putAll cs (by rw [H48.out, hZ])
        have hdS : ∀ Z : Array Value, Below w.heap.size w ((w3.alloc (.cells Z 43)).setCells w3.heap.size 0 cs.toList) := fun Z => below_sets _ _ (keep_alloc hd3 _) (by omega)
        have hBS : ∀ Z : Array Value, Blk ((w3.alloc (.cells Z 43)).setCells w3.heap.size 0 cs.toList) w.heap.size 37 cs := fun Z => (HB3.out.alloc _).fars (by omega) _ _
        have HdS := Lib.hid hdS
        have HBS := Lib.hid hBS
        clear hdS hBS
        go_wp2_with (first
          | ((with_reducible refine wpList_load_want ?qw 37 (.tmp 4) ?q2 w.heap.size ?q3 37 cs _ hB3 Tryd.underlying37 rfl hi ?_); (case q2 => rfl); (case q3 => rfl); (case qw => rfl))
          | ((with_reducible refine wpList_build_want ?bq 43 #[(0, .tmp 91)] ?r2 #[(0, .agg cs)] ?r3 (.agg cs) (hbd _) ?_); (case r2 => rfl); (case r3 => simp [Act.eval, Act.put]); (case bq => rfl))
          | ((with_reducible refine wpList_store_mid ?a1 43 (.tmp 12) (.tmp 92) ?a2 w3.heap.size 0 cs ?a3 ?a4 (hth _ rfl) hi2 h1c ?_); (case a1 => rfl); (case a2 => rfl); (case a3 => rfl); (case a4 => rfl))
          | ((with_reducible refine wpList_load_want ?qw 43 (.tmp 12) ?q2 w3.heap.size ?q3 43 cs _ (hBI _ rfl) Tryd.underlying43 rfl hi2 ?_); (case q2 => rfl); (case q3 => rfl); (case qw => rfl)))
        refine (HIT.out _).mono ?_
        rintro e w4 ⟨rfl, hb4⟩
        have hd4 : Below w.heap.size w w4 := keep_below hb4 (HdS.out _)
        have HB4 : Hid (Blk w4 w.heap.size 37 cs) := Lib.hid ((HBS.out _).below hb4 (HBS.out _).lt)
        have hs4 : w.heap.size < w4.heap.size := HB4.out.lt
        clear hth hBI HdS HBS hb4 hB3 HB3 hd3 hs3
        cases hU : U with
        | nil =>
          subst hU
          have HHT := Lib.hid hText_any
          go_wp2_with fail
          refine (HHT.out _).mono ?_
          rintro e w5 ⟨rfl, hb5⟩
          go_wp2_with fail
          go_ret
          exact ⟨ret_bool (by simp), keep_below hb5 hd4⟩
        | cons u0 ur =>
          have hne : U ≠ [] := by rw [hU]; simp
          have hub : (U == []) = false := by rw [hU]; rfl
          have hue : U.isEmpty = false := by rw [hU]; rfl
          rw [← hU]
          clear hU
          obtain ⟨u1, u2, u3⟩ := HIB.out hne
          have HRU : Hid (∀ W, Calls Tryd.prog 7 #[str U, .int .i64 (1 + (lv : Int) % 3)] W fun e w' => e = .returned (.tuple #[.iface 43 (.agg cs), .int .i64 0]) ∧ Below W.heap.size W w') := Lib.hid fun W => by
            have := nread_any U (1 + (lv : Int) % 3) W (by omega)
            have hnb : ¬ nrBad U (1 + (lv : Int) % 3) := by unfold nrBad; simp only [hne, false_or, not_or]; exact ⟨by omega, by omega, by omega⟩
            rw [(nr_i (by omega) hnb (by omega)).1, (nr_i (by omega) hnb (by omega)).2, u2, u3] at this
            exact this
          have hU1 : U.length ≤ 256 := by omega
          have hU2 : 256 ≤ U.length := by omega
          have hoki := fun (W : World) => ok_index (.agg cs) W
          clear u1 u2 u3 hne HIB HIT
          go_wp2_with fail
          refine (HRU.out _).mono ?_
          rintro e w5 ⟨rfl, hb5⟩
          have hd5 := keep_below hb5 hd4
          have HB5 := Lib.hid (HB4.out.below hb5 hs4)
          have hs5 : w.heap.size < w5.heap.size := keep_size hb5 hs4
          clear hb5 HB4 hd4 hs4
          have hth : ∀ Z : Array Value, Z.size = 48 → (w5.alloc (.cells Z 43)).there w5.heap.size 0 cs.size := fun Z hZ => (Blk.new w5 _ Z).there (by rw [H48.out, hZ]; omega)
          have HBJ : Hid (∀ Z : Array Value, Z.size = 48 → Blk ((w5.alloc (.cells Z 43)).setCells w5.heap.size 0 cs.toList) w5.heap.size 43 cs) := Lib.hid fun Z hZ => (Blk.new w5 _ Z).putAll cs (by rw [H48.out, hZ])
          have HdS : Hid (∀ Z : Array Value, Below w.heap.size w ((w5.alloc (.cells Z 43)).setCells w5.heap.size 0 cs.toList)) := Lib.hid fun Z => below_sets _ _ (keep_alloc hd5 _) (by omega)
          have HBS : Hid (∀ Z : Array Value, Blk ((w5.alloc (.cells Z 43)).setCells w5.heap.size 0 cs.toList) w.heap.size 37 cs) := Lib.hid fun Z => (HB5.out.alloc _).fars (by omega) _ _
          go_wp2_with ((with_reducible refine wpList_store_mid ?a1 43 (.tmp 16) (.tmp 114) ?a2 w5.heap.size 0 cs ?a3 ?a4 (hth _ rfl) hi2 h1c ?_); (case a1 => rfl); (case a2 => rfl); (case a3 => rfl); (case a4 => rfl))
          obtain ⟨w6, hw6⟩ : ∃ w6, w6 = (w5.alloc (.cells #[.int .i64 0, .int .i64 0, .int .i64 0, .int .i64 0, .bool false, .int .i64 0, .int .i64 0, .int .i64 0, .int .u64 0, .int .u64 0, .int .u64 0, .int .u64 0, .int .i64 0, .int .i64 0, .int .i64 0, .int .i64 0, .bool false, .int .i64 0, .int .i64 0, .int .i64 0, .int .u64 0, .int .u64 0, .int .u64 0, .int .u64 0, .int .i64 0, .int .i64 0, .int .i64 0, .int .i64 0, .bool false, .int .i64 0, .int .i64 0, .int .i64 0, .int .u64 0, .int .u64 0, .int .u64 0, .int .u64 0, .int .i64 0, .int .i64 0, .int .i64 0, .int .i64 0, .bool false, .int .i64 0, .int .i64 0, .int .i64 0, .int .u64 0, .int .u64 0, .int .u64 0, .int .u64 0] 43)).setCells w5.heap.size 0 cs.toList := ⟨_, rfl⟩
          have hd6 : Below w.heap.size w w6 := by rw [hw6]; exact HdS.out _
          have hBJ6 : Blk w6 w5.heap.size 43 cs := by rw [hw6]; exact HBJ.out _ rfl
          have hBS6 : Blk w6 w.heap.size 37 cs := by rw [hw6]; exact HBS.out _
          rw [← hw6]
          clear hw6 hth HBJ HdS HBS hd5 HB5 HRU hoki
          obtain ⟨C, hC, hC0, hCB, hCK, hCd⟩ := cls_below w6
          have fL : ∀ W, C W → (Instr.loadAt 37 (.pointer (some ⟨w.heap.size, 0, none⟩))).run Tryd.prog W = .ok (.agg cs) W := fun W h => (hBS6.below (hCB W h) hBS6.lt).loadAt Tryd.underlying37 rfl hi
          have fJ : ∀ W, C W → (Instr.loadAt 37 (.pointer (some ⟨w5.heap.size, 0, none⟩))).run Tryd.prog W = .ok (.agg cs) W := fun W h => (hBJ6.below (hCB W h) hBJ6.lt).loadAt Tryd.underlying37 rfl hi
          clear hBJ6 hBS6
          refine wp_region_cls C (by kernel_rfl) (by kernel_rfl) hC ?_
          repeat (first
            | go_big_quiet_skip
            | (go_big_quiet_want; refine quiet_loadAt 37 (.tmp 118) (by rfl) (.agg cs) _ (by rfl) fJ ?_; simp only [Act.put, List.setIfInBounds_toArray, List.set_cons_zero, List.set_cons_succ]; go_big_quiet_on)
            | (go_big_quiet_want; refine quiet_loadAt 37 (.tmp 4) (by rfl) (.agg cs) _ (by rfl) fL ?_; simp only [Act.put, List.setIfInBounds_toArray, List.set_cons_zero, List.set_cons_succ]; go_big_quiet_on)
            | (go_big_quiet_want
               go_big_quiet_op
               first
                 | go_big_quiet_on
                 | (apply Exists.intro
                    refine ⟨fun W hW => ?_, ?_⟩
                    · first
                        | exact rfl
                        | exact ⟨rfl, rfl⟩
                        | (simp only [Result.andThen_ok]; done)
                        | (simp only [Result.andThen_ok]; first | exact ⟨trivial, rfl⟩ | exact rfl | exact ⟨rfl, rfl⟩)
                        | ((refine (HLK.out W).mono ?_; rintro e w' ⟨rfl, hb⟩; exact ⟨rfl, hCK _ _ hW hb⟩))
                    go_big_quiet_on)))
          refine wpQuiet_nil ?_
          intro v4 hv4
          have hwB := hCB v4 hv4
          go_wp2_with fail
          go_ret
          exact ⟨ret_bool (by simp; omega), keep_below hwB hd6⟩
    · have hs0 : s ≠ [] := fun h => hx (.inl h)
      have hs256 : s.length ≤ 256 := by
        rcases Nat.lt_or_ge 256 s.length with h | h
        · exact absurd (.inr h) hx
        · exact h
      have hsl : 0 < s.length := List.length_pos_iff.2 hs0
      obtain ⟨hT, hTm, hTb⟩ := data_pad hs0 hs256
      rw [hT] at HT
      have hX1 : (ByteArray.mk (s ++ List.replicate (padN s.length 64) 0).toArray).extract 0 s.length = ⟨s.toArray⟩ := by rw [rd_take, List.take_left]
      have hX2 : (ByteArray.mk (s ++ List.replicate (padN s.length 64) 0).toArray).extract s.length (s ++ List.replicate (padN s.length 64) 0).length = ⟨(List.replicate (padN s.length 64) (0 : UInt8)).toArray⟩ := by
        rw [rd_rest _ _ (by simp), List.drop_left]
      have hz : allZ (List.replicate (padN s.length 64) 0) = true := by simp [allZ]
      have hRl : (List.replicate (padN s.length 64) (0 : UInt8)).length ≤ 9223372036854775807 := by simp only [List.length_replicate, padN]; omega
      have hge : s.length ≤ (s ++ List.replicate (padN s.length 64) (0 : UInt8)).length := by simp
      have HZ := Lib.hid fun W => zeros_any (List.replicate (padN s.length 64) 0) W hRl
      rw [hz] at HZ
      clear hT hz hx hRl
      generalize List.replicate (padN s.length 64) (0 : UInt8) = R at *
      generalize s ++ R = T at *
      have hTn : T ≠ [] := by intro h; rw [h] at hge; simp only [List.length_nil] at hge; omega
      have HRD : Hid (∀ W, Calls Tryd.prog 7 #[str T, .int .i64 0] W fun e w' => e = .returned (.tuple #[.iface 39 (.agg #[str T]), .int .i64 0]) ∧ Below W.heap.size W w') := Lib.hid fun W => by
        have := nread_any T 0 W (by omega)
        have hnb : ¬ nrBad T 0 := by unfold nrBad; simp only [hTn, false_or, not_or]; exact ⟨by omega, by omega, by omega⟩
        rw [(nr_d (by omega) hnb (by omega)).1, (nr_d (by omega) hnb (by omega)).2] at this
        exact this
      have hz0 : ((s.length : Int) == 0) = false := by rw [beq_eq_false_iff_ne]; omega
      have hm0 : (((T.length : Int) % 64) != 0) = false := by rw [bne_eq_false_iff_eq]; omega
      have hge' : (s.length : Int) ≤ T.length := by omega
      have hokd := fun (W : World) => ok_data (.agg #[str T]) W
      clear hs0 hTn hTm
      go_wp2_with fail
      refine (HT.out _).mono ?_
      rintro e w2 ⟨rfl, hb2⟩
      have hd2 := keep_below hb2 hd1
      have HB2 := Lib.hid (HB1.out.below hb2 hs1)
      have hs2 : w.heap.size < w2.heap.size := keep_size hb2 hs1
      go_wp2_with fail
      refine (HRD.out _).mono ?_
      rintro e wx ⟨rfl, hbx⟩
      have hdx := keep_below hbx hd2
      have HBx := Lib.hid (HB2.out.below hbx hs2)
      have hsx : w.heap.size < wx.heap.size := keep_size hbx hs2
      clear hd1 hd2 hs1 hs2 HB1 HB2 hb2 hbx HT HRD
      go_wp2_with fail
      refine (HZ.out _).mono ?_
      rintro e wy ⟨rfl, rfl⟩
      obtain ⟨w3, hw3⟩ : ∃ w3, w3 = wx.alloc (.cells #[str T] 39) := ⟨_, rfl⟩
      have hd3 : Below w.heap.size w w3 := by rw [hw3]; exact keep_alloc hdx _
      have HB3 : Hid (Blk w3 w.heap.size 37 cs) := by rw [hw3]; exact Lib.hid (HBx.out.alloc _)
      have hs3 : w.heap.size < w3.heap.size := HB3.out.lt
      rw [← hw3]
      clear hw3 HBx hdx hsx HZ hX1 hX2 hokd
      have hB3 := HB3.out
      have hth : ∀ Z : Array Value, Z.size = 48 → (w3.alloc (.cells Z 43)).there w3.heap.size 0 cs.size := fun Z hZ => (Blk.new w3 _ Z).there (by rw [H48.out, hZ]; omega)
      have hBI : ∀ Z : Array Value, Z.size = 48 → Blk ((w3.alloc (.cells Z 43)).setCells w3.heap.size 0 cs.toList) w3.heap.size 43 cs := fun Z hZ => (Blk.new w3 _ Z).putAll cs (by rw [H48.out, hZ])
      have hdS : ∀ Z : Array Value, Below w.heap.size w ((w3.alloc (.cells Z 43)).setCells w3.heap.size 0 cs.toList) := fun Z => below_sets _ _ (keep_alloc hd3 _) (by omega)
      have hBS : ∀ Z : Array Value, Blk ((w3.alloc (.cells Z 43)).setCells w3.heap.size 0 cs.toList) w.heap.size 37 cs := fun Z => (HB3.out.alloc _).fars (by omega) _ _
      have HdS := Lib.hid hdS
      have HBS := Lib.hid hBS
      clear hdS hBS
      go_wp2_with (first
        | ((with_reducible refine wpList_load_want ?qw 37 (.tmp 4) ?q2 w.heap.size ?q3 37 cs _ hB3 Tryd.underlying37 rfl hi ?_); (case q2 => rfl); (case q3 => rfl); (case qw => rfl))
        | ((with_reducible refine wpList_build_want ?bq 43 #[(0, .tmp 91)] ?r2 #[(0, .agg cs)] ?r3 (.agg cs) (hbd _) ?_); (case r2 => rfl); (case r3 => simp [Act.eval, Act.put]); (case bq => rfl))
        | ((with_reducible refine wpList_store_mid ?a1 43 (.tmp 12) (.tmp 92) ?a2 w3.heap.size 0 cs ?a3 ?a4 (hth _ rfl) hi2 h1c ?_); (case a1 => rfl); (case a2 => rfl); (case a3 => rfl); (case a4 => rfl))
        | ((with_reducible refine wpList_load_want ?qw 43 (.tmp 12) ?q2 w3.heap.size ?q3 43 cs _ (hBI _ rfl) Tryd.underlying43 rfl hi2 ?_); (case q2 => rfl); (case q3 => rfl); (case qw => rfl)))
      refine (HIT.out _).mono ?_
      rintro e w4 ⟨rfl, hb4⟩
      have hd4 : Below w.heap.size w w4 := keep_below hb4 (HdS.out _)
      have HB4 : Hid (Blk w4 w.heap.size 37 cs) := Lib.hid ((HBS.out _).below hb4 (HBS.out _).lt)
      have hs4 : w.heap.size < w4.heap.size := HB4.out.lt
      clear hth hBI HdS HBS hb4 hB3 HB3 hd3 hs3
      cases hU : U with
      | nil =>
        subst hU
        have HHT := Lib.hid hText_any
        go_wp2_with fail
        refine (HHT.out _).mono ?_
        rintro e w5 ⟨rfl, hb5⟩
        go_wp2_with fail
        go_ret
        exact ⟨ret_bool (by simp), keep_below hb5 hd4⟩
      | cons u0 ur =>
        have hne : U ≠ [] := by rw [hU]; simp
        have hub : (U == []) = false := by rw [hU]; rfl
        have hue : U.isEmpty = false := by rw [hU]; rfl
        rw [← hU]
        clear hU
        obtain ⟨u1, u2, u3⟩ := HIB.out hne
        have HRU : Hid (∀ W, Calls Tryd.prog 7 #[str U, .int .i64 (1 + (lv : Int) % 3)] W fun e w' => e = .returned (.tuple #[.iface 43 (.agg cs), .int .i64 0]) ∧ Below W.heap.size W w') := Lib.hid fun W => by
          have := nread_any U (1 + (lv : Int) % 3) W (by omega)
          have hnb : ¬ nrBad U (1 + (lv : Int) % 3) := by unfold nrBad; simp only [hne, false_or, not_or]; exact ⟨by omega, by omega, by omega⟩
          rw [(nr_i (by omega) hnb (by omega)).1, (nr_i (by omega) hnb (by omega)).2, u2, u3] at this
          exact this
        have hU1 : U.length ≤ 256 := by omega
        have hU2 : 256 ≤ U.length := by omega
        have hoki := fun (W : World) => ok_index (.agg cs) W
        clear u1 u2 u3 hne HIB HIT
        go_wp2_with fail
        refine (HRU.out _).mono ?_
        rintro e w5 ⟨rfl, hb5⟩
        have hd5 := keep_below hb5 hd4
        have HB5 := Lib.hid (HB4.out.below hb5 hs4)
        have hs5 : w.heap.size < w5.heap.size := keep_size hb5 hs4
        clear hb5 HB4 hd4 hs4
        have hth : ∀ Z : Array Value, Z.size = 48 → (w5.alloc (.cells Z 43)).there w5.heap.size 0 cs.size := fun Z hZ => (Blk.new w5 _ Z).there (by rw [H48.out, hZ]; omega)
        have HBJ : Hid (∀ Z : Array Value, Z.size = 48 → Blk ((w5.alloc (.cells Z 43)).setCells w5.heap.size 0 cs.toList) w5.heap.size 43 cs) := Lib.hid fun Z hZ => (Blk.new w5 _ Z).putAll cs (by rw [H48.out, hZ])
        have HdS : Hid (∀ Z : Array Value, Below w.heap.size w ((w5.alloc (.cells Z 43)).setCells w5.heap.size 0 cs.toList)) := Lib.hid fun Z => below_sets _ _ (keep_alloc hd5 _) (by omega)
        have HBS : Hid (∀ Z : Array Value, Blk ((w5.alloc (.cells Z 43)).setCells w5.heap.size 0 cs.toList) w.heap.size 37 cs) := Lib.hid fun Z => (HB5.out.alloc _).fars (by omega) _ _
        go_wp2_with ((with_reducible refine wpList_store_mid ?a1 43 (.tmp 16) (.tmp 114) ?a2 w5.heap.size 0 cs ?a3 ?a4 (hth _ rfl) hi2 h1c ?_); (case a1 => rfl); (case a2 => rfl); (case a3 => rfl); (case a4 => rfl))
        obtain ⟨w6, hw6⟩ : ∃ w6, w6 = (w5.alloc (.cells #[.int .i64 0, .int .i64 0, .int .i64 0, .int .i64 0, .bool false, .int .i64 0, .int .i64 0, .int .i64 0, .int .u64 0, .int .u64 0, .int .u64 0, .int .u64 0, .int .i64 0, .int .i64 0, .int .i64 0, .int .i64 0, .bool false, .int .i64 0, .int .i64 0, .int .i64 0, .int .u64 0, .int .u64 0, .int .u64 0, .int .u64 0, .int .i64 0, .int .i64 0, .int .i64 0, .int .i64 0, .bool false, .int .i64 0, .int .i64 0, .int .i64 0, .int .u64 0, .int .u64 0, .int .u64 0, .int .u64 0, .int .i64 0, .int .i64 0, .int .i64 0, .int .i64 0, .bool false, .int .i64 0, .int .i64 0, .int .i64 0, .int .u64 0, .int .u64 0, .int .u64 0, .int .u64 0] 43)).setCells w5.heap.size 0 cs.toList := ⟨_, rfl⟩
        have hd6 : Below w.heap.size w w6 := by rw [hw6]; exact HdS.out _
        have hBJ6 : Blk w6 w5.heap.size 43 cs := by rw [hw6]; exact HBJ.out _ rfl
        have hBS6 : Blk w6 w.heap.size 37 cs := by rw [hw6]; exact HBS.out _
        rw [← hw6]
        clear hw6 hth HBJ HdS HBS hd5 HB5 HRU hoki
        obtain ⟨C, hC, hC0, hCB, hCK, hCd⟩ := cls_below w6
        have fL : ∀ W, C W → (Instr.loadAt 37 (.pointer (some ⟨w.heap.size, 0, none⟩))).run Tryd.prog W = .ok (.agg cs) W := fun W h => (hBS6.below (hCB W h) hBS6.lt).loadAt Tryd.underlying37 rfl hi
        have fJ : ∀ W, C W → (Instr.loadAt 37 (.pointer (some ⟨w5.heap.size, 0, none⟩))).run Tryd.prog W = .ok (.agg cs) W := fun W h => (hBJ6.below (hCB W h) hBJ6.lt).loadAt Tryd.underlying37 rfl hi
        clear hBJ6 hBS6
        refine wp_region_cls C (by kernel_rfl) (by kernel_rfl) hC ?_
        repeat (first
          | go_big_quiet_skip
          | (go_big_quiet_want; refine quiet_loadAt 37 (.tmp 118) (by rfl) (.agg cs) _ (by rfl) fJ ?_; simp only [Act.put, List.setIfInBounds_toArray, List.set_cons_zero, List.set_cons_succ]; go_big_quiet_on)
          | (go_big_quiet_want; refine quiet_loadAt 37 (.tmp 4) (by rfl) (.agg cs) _ (by rfl) fL ?_; simp only [Act.put, List.setIfInBounds_toArray, List.set_cons_zero, List.set_cons_succ]; go_big_quiet_on)
          | (go_big_quiet_want
             go_big_quiet_op
             first
               | go_big_quiet_on
               | (apply Exists.intro
                  refine ⟨fun W hW => ?_, ?_⟩
                  · first
                      | exact rfl
                      | exact ⟨rfl, rfl⟩
                      | (simp only [Result.andThen_ok]; done)
                      | (simp only [Result.andThen_ok]; first | exact ⟨trivial, rfl⟩ | exact rfl | exact ⟨rfl, rfl⟩)
                      | ((refine (HLK.out W).mono ?_; rintro e w' ⟨rfl, hb⟩; exact ⟨rfl, hCK _ _ hW hb⟩))
                  go_big_quiet_on)))
        refine wpQuiet_nil ?_
        intro v4 hv4
        have hwB := hCB v4 hv4
        go_wp2_with fail
        go_ret
        exact ⟨ret_bool (by simp; omega), keep_below hwB hd6⟩
end Go.Proofs.YtkmmehhddagijaaDoor
