/-
  The walk of 'RelayPlays': the call returns true and turns nothing that was there: for any ways, any events, from whichever request on it is faithful.
-/
import Derived.Test.YteclbfkeiejbeaaAid
import Derived.Laws.AppendOwnNone
namespace Go.Proofs.Yteclbfkeiejbeaa
open Go.RowKit Go.Maps

/-- append onto a row of the call's own, of whatever slice, a nil one too. -/
theorem wpList_append_own_any {P : Program} (w : World) {ops : Array Oper} {rest : List Oper} {o : Oper} {a : Act} {Q : Exit → Act → World → Prop} (hgd : o.guard = none) (s x : Operand) (t : TypeId)
    (ho : o.op = .call { callee := .builtin .append, args := #[s, x], argTypes := #[t, t] })
    (e : TypeId) (i : TypeInfo) (z : Value) (size bytes : Nat) (ht : P.underlying t = some (.slice e)) (hi : P.info? e = some i) (hz : i.zero = some z)
    (hsize : i.size = size) (hby : i.bytes = bytes) (hzs : z.cells.size = size) (hsz : 0 < size)
    (v : Value) (n : Nat) (xs : List Value) (hs : a.eval s = v) (hown : w.ownsRow 0 e size v n xs)
    (ao : Option Addr) (m c : Nat) (news : List Value) (hx : a.eval x = .slice ao m c) (hn : ao = none → m = 0 ∧ c = 0) (hl : news.length = m * size) (hnews : ∀ ad, ao = some ad → ∀ (j : Nat) (u : Value), news[j]? = some u → w.cell? (ad.add j) = some u) (h1 : ∀ u ∈ news, u.oneCell' = true)
    (h63 : n + m ≤ maxLen) (hbytes : (n + m) * bytes ≤ 140737488355328)
    (h : ∀ v' w', w'.ownsRow 0 e size v' (n + m) (xs ++ news) → w.grownBy w' v.ownBlock → (v'.ownBlock = v.ownBlock ∨ v'.ownBlock = some w.heap.size) → wpList P ops Q rest (a.put o.dst v') w') :
    wpList P ops Q (o :: rest) a w := by
  cases ao with
  | some ad => exact wpList_append_own_at w hgd s x t ho 0 e i z size bytes ht hi hz hsize hby hzs hsz v n xs hs hown ad m c news hx hl (hnews ad rfl) h1 h63 hbytes (Nat.zero_le _) (fun v' w' a1 a2 _ a4 => h v' w' a1 a2 a4)
  | none =>
    obtain ⟨rfl, rfl⟩ := hn rfl
    have hnil : news = [] := List.eq_nil_of_length_eq_zero (by simpa using hl)
    subst hnil
    exact wpList_append_own_none hgd s x t ho 0 e i size ht hi v n xs hs hown hx (h v w (by simpa using hown) (World.grownBy.refl w _) (.inl rfl))

set_option maxRecDepth 100000 in
set_option maxHeartbeats 4000000 in
theorem plays_walk (a0 : Option Addr) (len0 cap0 : Nat) (zs : List Int) (a : Option Addr) (len cap b off : Nat) (f : Nat → EvB) (from_ : Int) (w : World) (hz : Ways w a0 len0 cap0 zs) (h : Evs w a len cap b off f) :
    Calls Try.prog 3 #[.slice a0 len0 cap0, .slice a len cap, .int .i64 from_] w fun e w' => e = .returned (.bool true) ∧ Below w.heap.size w w' := by
  have HZ := Lib.hid hz
  have H := Lib.hid h
  have hb := h.bound
  have hb0 : len0 ≤ 9223372036854775807 := hz.bound
  obtain ⟨i3, hi, hz0, hz1, hz2⟩ := info_parts Try.info3
  have hm : 0 + len0 ≤ maxLen := by have := hz.bound; omega
  have hm' : (0 + len0) * 8 ≤ 140737488355328 := by have := hz.reach; omega
  clear hz h
  go_enter Try.func3, Try.ntmps3
  go_wp2_with fail
  refine (small_any _).mono ?_; rintro e w1 ⟨rfl, b1⟩
  have B1 := Lib.hid b1
  clear b1
  go_wp2_with fail
  refine (few_any a len cap b off f _ (H.out.kept B1.out)).mono ?_; rintro e w' ⟨t, rfl, rfl, ht⟩
  have HT := Lib.hid ht
  clear ht
  have W1 := Lib.hid (HZ.out.kept B1.out)
  have CUT : Hid (∀ (v : Value) (w2 : World), Fresh w1 w2 3 1 len0 (zs.map (.int .i64)) v → Own1 w.heap.size w w2 (SomeRow 3 1 v len0) ∧ (∃ qa qc, v = .slice qa len0 qc) ∧ ∀ qa qc, v = .slice qa len0 qc → Ways w2 qa len0 qc zs) := Lib.hid (fun v w2 hf => by
    refine ⟨⟨B1.out.trans (hf.2.1.below B1.out.size (fun _ h => h.elim)), Nat.le_trans B1.out.size hf.2.1.size, fun b => v.ownBlock = some b, ⟨_, hf.1, fun _ => Iff.rfl⟩, fun b hb => Nat.le_trans B1.out.size (hf.2.2 b hb)⟩, row1_shape hf.1, fun qa qc hv => ?_⟩
    obtain ⟨a', c', e, hs⟩ := src_of_row hf.1 (by intro u hu; obtain ⟨z, _, rfl⟩ := List.mem_map.1 hu; rfl)
    rw [hv] at e
    simp only [Value.slice.injEq, true_and] at e
    obtain ⟨rfl, rfl⟩ := e
    exact ⟨hs, HZ.out.fits, HZ.out.reach, HZ.out.bound⟩)
  have hrow : (w1.alloc (.cells #[] 3)).ownsRow 0 3 1 (.slice (some ⟨w1.heap.size, 0, none⟩) 0 0) 0 [] := World.ownsRow_made w1 #[] 0 (Nat.zero_le _) (Nat.zero_le _) rfl
  have hc : ∀ ad, a0 = some ad → ∀ (j : Nat) (u : Value), (zs.map (Value.int .i64))[j]? = some u → (w1.alloc (.cells #[] 3)).cell? (ad.add j) = some u := fun ad e j u hu => (World.grownBy_alloc w1 _ none).cell (W1.out.src.cells ad e j u hu) (by simp)
  have h1 := W1.out.src.one
  have hlen := W1.out.src.length
  have hno := W1.out.src.none
  go_wp2_with (at_builtin; refine wpList_append_own_any _ rfl (.tmp 29) (.tmp 30) 22 rfl 3 i3 (.int .i64 0) 1 8 Try.underlying22 hi hz0 hz1 hz2 rfl (by decide) _ _ _ rfl hrow a0 len0 cap0 _ rfl hno hlen hc h1 hm hm' ?_; intro v' w2 hrow1 hgrow hloc; have HF := Lib.hid (fresh_of hrow1 hgrow hloc); obtain ⟨o1, ⟨qa, qc, hv⟩, o3⟩ := CUT.out v' w2 HF.out; have I1 := Lib.hid o1; have W2 := Lib.hid (o3 qa qc hv); clear o1 o3 hrow1 hgrow hloc HF; subst hv)
  clear hc h1 hlen hno hrow CUT hm hm' hi hz0 hz1 hz2
  refine (new_ways2 (SomeRow.framed _ _ _ _) W2.out I1.out).mono ?_
  rintro e w3 ⟨p, rfl, h⟩
  have I2 := Lib.hid h
  clear h I1
  have I3 := Lib.hid (I2.out.pair.rrel (Pair.framed (SomeRow.framed _ _ _ _) (Rel.framed _ _)) (HZ.out.kept I2.out.below))
  cases t with
  | false =>
    go_wp2_with fail
    go_ret
    exact ⟨rfl, I3.out.below⟩
  | true =>
    obtain ⟨hl, hs⟩ := HT.out rfl
    have HS := Lib.hid hs
    clear hs HT
    by_cases h200 : 200 < len0
    · go_wp2_with fail
      go_ret
      exact ⟨rfl, I3.out.below⟩
    have HLZ : Hid (zs.length = len0) := Lib.hid (by have := HZ.out.src.length; simpa using this)
    obtain ⟨q, hq⟩ : ∃ q, q = w3.heap.size := ⟨_, rfl⟩
    rw [← hq] at I3
    go_wp2_with fail
    rw [← hq]
    clear hq
    go_loopw [12] (fun i wr => ∃ k : Nat, k ≤ len0 ∧ i = .int .i64 k ∧ Own2 w.heap.size w wr (Pair (SomeRow 3 1 (.slice qa len0 qc) len0) (Rel p ⟨[], [], [], zs⟩)) (RRel q ⟨[], [], [], zs⟩ false zs a0 len0 cap0)) (fun i _ => len0 - (intOf i).toNat)
    case atStart => exact ⟨0, Nat.zero_le _, rfl, I3.out⟩
    case round =>
      obtain ⟨k, hk, rfl, hI⟩ := hrel
      have I4 := Lib.hid hI
      clear hI
      by_cases hlt : k < len0
      · obtain ⟨F, G, ⟨F1, F2, ⟨xs, hr, -⟩, -, -, -⟩, -⟩ := I4.out.2.2
        obtain ⟨g, rfl⟩ : ∃ g, qa = some ⟨g, 0, none⟩ := by
          rcases hr.2 with ⟨e, _⟩ | ⟨g, cap, _, e, _⟩
          · simp only [Value.slice.injEq] at e; omega
          · simp only [Value.slice.injEq] at e; exact ⟨g, e.1⟩
        have d0 := hr.cellAt k (by omega)
        have z0 := hr.frozenAt k
        have hxl : k < xs.length := by have := hr.1; omega
        rw [List.getElem?_eq_getElem hxl] at d0
        generalize xs[k] = old at d0
        clear hr
        go_wp2_with fail
        go_roundw
        case rel => exact ⟨k + 1, by omega, by go_num, I4.out.turn1 (RRel.framed _ _ _ _ _ _ _) (Pair.turn1 (Rel.framed _ _) (SomeRow.store k _))⟩
        case measure => simp [intOf]; omega
      · have I5 := Lib.hid I4.out.drop
        clear I4
        go_wp2_with fail
        clear hlt
        go_loopw [13] (fun i wr => ∃ k : Nat, k ≤ len ∧ i = .int .i64 k ∧ ∃ (s : St) (fair : Bool), s.seen.length = k ∧ Own2 w.heap.size w wr (Rel p s) (RRel q s fair zs a0 len0 cap0)) (fun i _ => len - (intOf i).toNat)
        case atStart => exact ⟨0, Nat.zero_le _, rfl, _, false, rfl, I5.out⟩
        case round =>
          obtain ⟨k, hk, rfl, s, fair, hseen, hP⟩ := hrel
          have Q := Lib.hid hP
          have LS := Lib.hid hseen
          clear hP hseen
          by_cases hlt : k < len
          · have STEP : Hid (∀ wr2, Below w.heap.size w wr2 → Evs wr2 a len cap b off f ∧ Ways wr2 a0 len0 cap0 zs) := Lib.hid (fun wr2 h => ⟨H.out.kept h, HZ.out.kept h⟩)
            rcases Classical.em ((k : Int) = from_) with hfr | hfr
            have F1 := Lib.hid (Q.out.acts (RRel.framed _ _ _ _ _ _ _) (faithful_acts rfl))
            subst hfr
            go_wp2_with fail
            refine F1.out.mono ?_
            rintro e w4 ⟨rfl, h⟩
            obtain ⟨G, sk, sa, ss, hob, -⟩ := h.it2
            have d4 := hob.cell (i := 4) rfl
            have z4 := hob.frozen 4
            clear hob F1
            have R2 := Lib.hid (h.turn2 (Rel.framed _ _) fair_turn)
            clear h
            go_upto_region 18 with fail
            obtain ⟨wr2, hwr2⟩ : ∃ x, x = w4.setCell ⟨q, 4, none⟩ (.bool true) := ⟨_, rfl⟩
            rw [← hwr2] at R2 ⊢
            have LS2 : Hid (({ s with ways := [] } : St).seen.length = k) := LS
            obtain ⟨s2, hs2⟩ : ∃ x : St, x = { s with ways := [] } := ⟨_, rfl⟩
            obtain ⟨fair2, hf2⟩ : ∃ x, x = true := ⟨_, rfl⟩
            rw [← hs2, ← hf2] at R2
            rw [← hs2] at LS2
            clear LS
            have LS := LS2
            clear LS2 hwr2 hs2 hf2 Q d4 z4
            rotate_left
            have hfb : ((k : Int) == from_) = false := by simpa using hfr
            clear hfr
            go_upto_region 18 with fail
            obtain ⟨wr2, hwr2⟩ : ∃ x, x = wr := ⟨_, rfl⟩
            rw [← hwr2] at Q ⊢
            have R2 := Q
            obtain ⟨s2, hs2⟩ : ∃ x, x = s := ⟨_, rfl⟩
            obtain ⟨fair2, hf2⟩ : ∃ x, x = fair := ⟨_, rfl⟩
            rw [← hs2, ← hf2] at R2
            rw [← hs2] at LS
            clear hwr2 hs2 hf2 Q hfb
            all_goals
              have hx : ∀ W, (Instr.indexAt 23 (.slice a len cap) (.int .i64 k)).run Try.prog W = .ok (.pointer (some ⟨b, off + k * 4, none⟩)) W := fun W => H.out.index W k hlt
              have He := Lib.hid (STEP.out _ R2.out.below).1
              have c0 := He.out.c0 k hlt
              have c1 := He.out.c1 k hlt
              have c2 := He.out.c2 k hlt
              have c3 := He.out.c3 k hlt
              have WF := Lib.hid (H.out.wf k hlt)
              have SZ := Lib.hid (HS.out k hlt)
              obtain ⟨ev, hev⟩ : ∃ ev, f k = ev := ⟨_, rfl⟩
              rw [hev] at c0 c1 c2 c3 WF SZ
              clear He hev
              obtain ⟨ea, ep, en, ex⟩ := ev
              simp only at c0 c1 c2 c3
              have L1 : Hid (s2.seen.length < 65536) := Lib.hid (by rw [LS.out]; omega)
              have D := Lib.hid (R2.out.pair.hold (Pair.framed (Rel.framed _ _) (RRel.framed _ _ _ _ _ _ _)) (.cells #[.int .i64 ea, .bool ep, .int .i64 en, .string ex] 34))
              cases ep with
              | true =>
                obtain ⟨pe, hpe⟩ : ∃ pe, s2.putErr = pe := ⟨_, rfl⟩
                have D1 := Lib.hid (D.out.more (Pair.framed (Rel.framed _ _) (RRel.framed _ _ _ _ _ _ _)) (HeldAt.framed _ _) (Keeps.drewN (fun _ => False) _ 1))
                obtain ⟨s3, hs3⟩ : ∃ s3, s3 = s2.put ea en ex.data.toList := ⟨_, rfl⟩
                have P1 := Lib.hid (D1.out.acts (HeldAt.framed _ _) (Pair.acts1 (RRel.framed q s2 fair2 zs a0 len0 cap0) (put_acts L1.out ea en WF.out ex (Nat.le_trans SZ.out (by decide)) hpe hs3.symm)))
                have P2 : Hid (∀ w5, Own2 w.heap.size w w5 (Pair (Rel p s3) (RRel q s2 fair2 zs a0 len0 cap0)) (HeldAt wr2.heap.size (.cells #[.int .i64 ea, .bool true, .int .i64 en, .string ex] 34)) →
                    Calls Try.prog 13 #[.pointer (some ⟨q, 0, none⟩), .int .i64 ea, .int .i64 en, .string ex] w5 fun e w' => e = .returned (.int .i64 pe) ∧ Own2 w.heap.size w w' (Pair (Rel p s3) (RRel q s3 fair2 zs a0 len0 cap0)) (HeldAt wr2.heap.size (.cells #[.int .i64 ea, .bool true, .int .i64 en, .string ex] 34))) :=
                  Lib.hid (fun w5 h5 => h5.acts (HeldAt.framed _ _) (Pair.acts2 (Rel.framed p _) (rput_acts (STEP.out _ h5.below).2 L1.out ea en ex (Nat.le_trans SZ.out (by decide)) hpe hs3.symm)))
                obtain ⟨d0, d1, d2, d3⟩ := held_cells D1.out.it2
                have SN : Hid (s3.seen.length = k + 1) := Lib.hid (by rw [hs3, put_seen]; simp [LS.out])
                clear hpe hs3
                go_wp2_with fail
                go_region_held3 (fun w' => w'.cell? ⟨wr2.heap.size, 0, none⟩ = some (.int .i64 ea) ∧ w'.cell? ⟨wr2.heap.size, 2, none⟩ = some (.int .i64 en) ∧ w'.cell? ⟨wr2.heap.size, 3, none⟩ = some (.string ex))
                  (exact ⟨by assumption, by assumption, by assumption⟩)
                  (first
                    | (go_at_call_of 12 (Value.pointer (some ⟨p, 0, none⟩)); refine P1.out.mono ?_; rintro e w5 ⟨rfl, h5⟩; have R5 := Lib.hid h5; obtain ⟨e0, e1, e2, e3⟩ := held_cells h5.it2; clear h5)
                    | (go_at_call_of 13 (Value.pointer (some ⟨q, 0, none⟩)); refine (P2.out _ (Hid.out (by assumption))).mono ?_; rintro e w6 ⟨rfl, h6⟩; have R6 := Lib.hid h6; obtain ⟨g0, g1, g2, g3⟩ := held_cells h6.it2; clear h6)
                    | fail)
                have R7 := Lib.hid (Hid.out (by assumption : Hid (Own2 w.heap.size w _ (Pair (Rel p s3) (RRel q s3 fair2 zs a0 len0 cap0)) (HeldAt wr2.heap.size (.cells #[.int .i64 ea, .bool true, .int .i64 en, .string ex] 34)))))
                clear P1 P2 D1 D d0 d1 d2 d3 c0 c1 c2 c3
                obtain ⟨k0, k1, k2, k3⟩ := held_cells R7.out.it2
                obtain ⟨hx1, hhx⟩ : ∃ x : ByteArray, lookD s3.kept en = x.data.toList := ⟨⟨(lookD s3.kept en).toArray⟩, rfl⟩
                obtain ⟨ht1, hht⟩ : ∃ t, (look s3.kept en).isSome = t := ⟨_, rfl⟩
                have HA := Lib.hid (has_own R7.out.left.split.left en WF.out hhx hht)
                have RH := Lib.hid (rhas_at R7.out.left.split.it2 en hhx hht)
                clear hhx hht
                go_wp2_with fail
                refine HA.out.mono ?_
                rintro e w7 ⟨rfl, rfl⟩
                go_wp2_with fail
                refine RH.out.mono ?_
                rintro e w7 ⟨rfl, rfl⟩
                go_wp2_with fail
                go_roundw
                case rel => exact ⟨k + 1, by omega, by go_num, s3, fair2, SN.out, R7.out.left.split⟩
                case measure => simp [intOf]; omega
              | false =>
                obtain ⟨gx, hgx⟩ : ∃ x : ByteArray, x.data.toList = (s2.got en).1 := ⟨⟨(s2.got en).1.toArray⟩, rfl⟩
                obtain ⟨gd, hgd⟩ : ∃ d, d = (s2.got en).2 := ⟨_, rfl⟩
                have hg : s2.got en = (gx.data.toList, gd) := Prod.ext hgx.symm hgd.symm
                obtain ⟨s3, hs3⟩ : ∃ s3, s3 = s2.saw ⟨ea, false, en, []⟩ := ⟨_, rfl⟩
                have G1 := Lib.hid (D.out.acts (HeldAt.framed _ _) (Pair.acts1 (RRel.framed q s2 fair2 zs a0 len0 cap0) (get_acts L1.out ea en WF.out hg hs3.symm)))
                have G2 : Hid (∀ w5, Own2 w.heap.size w w5 (Pair (Rel p s3) (RRel q s2 fair2 zs a0 len0 cap0)) (HeldAt wr2.heap.size (.cells #[.int .i64 ea, .bool false, .int .i64 en, .string ex] 34)) →
                    Calls Try.prog 15 #[.pointer (some ⟨q, 0, none⟩), .int .i64 ea, .int .i64 en] w5 fun e w' => e = .returned (.tuple #[.string gx, .int .i64 gd]) ∧ Own2 w.heap.size w w' (Pair (Rel p s3) (RRel q s3 fair2 zs a0 len0 cap0)) (HeldAt wr2.heap.size (.cells #[.int .i64 ea, .bool false, .int .i64 en, .string ex] 34))) :=
                  Lib.hid (fun w5 h5 => h5.acts (HeldAt.framed _ _) (Pair.acts2 (Rel.framed p _) (rget_acts (STEP.out _ h5.below).2 L1.out ea en hg hs3.symm)))
                have SN : Hid (s3.seen.length = k + 1) := Lib.hid (by rw [hs3]; simp [St.saw, LS.out])
                clear hgx hgd hg hs3
                go_wp2_with fail
                refine G1.out.mono ?_
                rintro e w5 ⟨rfl, h5⟩
                have R5 := Lib.hid h5
                obtain ⟨e0, e1, e2, e3⟩ := held_cells h5.it2
                clear h5 G1 c0 c1 c2 c3 D
                go_wp2_with fail
                refine (G2.out _ R5.out).mono ?_
                rintro e w6 ⟨rfl, h6⟩
                have R7 := Lib.hid h6
                clear h6 e0 e1 e2 e3 G2
                obtain ⟨k0, k1, k2, k3⟩ := held_cells R7.out.it2
                obtain ⟨hx1, hhx⟩ : ∃ x : ByteArray, lookD s3.kept en = x.data.toList := ⟨⟨(lookD s3.kept en).toArray⟩, rfl⟩
                obtain ⟨ht1, hht⟩ : ∃ t, (look s3.kept en).isSome = t := ⟨_, rfl⟩
                have HA := Lib.hid (has_own R7.out.left.split.left en WF.out hhx hht)
                have RH := Lib.hid (rhas_at R7.out.left.split.it2 en hhx hht)
                clear hhx hht
                go_wp2_with fail
                refine HA.out.mono ?_
                rintro e w7 ⟨rfl, rfl⟩
                go_wp2_with fail
                refine RH.out.mono ?_
                rintro e w7 ⟨rfl, rfl⟩
                go_wp2_with fail
                go_roundw
                case rel => exact ⟨k + 1, by omega, by go_num, s3, fair2, SN.out, R7.out.left.split⟩
                case measure => simp [intOf]; omega
          · have hkl : k = len := by omega
            subst hkl
            have V1 := Lib.hid (view_at Q.out.it1 (by rw [LS.out]; omega))
            rw [LS.out] at V1
            go_wp2_with fail
            refine V1.out.mono ?_
            rintro e w4 ⟨v, rfl, hf⟩
            obtain ⟨va, vc, hv⟩ := row1_shape hf.1
            subst hv
            have O := Lib.hid (Q.out.pair.fresh (Pair.framed (Rel.framed _ _) (RRel.framed _ _ _ _ _ _ _)) hf)
            have RV := Lib.hid hf.1
            obtain ⟨G, sk, sa, ss, hob, -⟩ := O.out.left.split.it2
            obtain ⟨ya, yc, hss⟩ := row1_shape (hob.part (i := 2) rfl)
            subst hss
            have RY : Hid (w4.ownsRow 0 34 4 (.slice ya s.seen.length yc) s.seen.length (s.seen.flatMap evCells)) := Lib.hid (hob.part (i := 2) rfl)
            have c2 := hob.cell (i := 2) rfl
            rw [LS.out] at RY c2
            have E1 := Lib.hid (events_same va ya k vc yc s.seen LS.out w4 RV.out RY.out)
            clear hob hf V1 RV RY
            go_wp2_with fail
            refine E1.out.mono ?_
            rintro e w5 ⟨rfl, hk5⟩
            have O5 : Hid (Own2 w.heap.size w w5 (Pair (Rel p s) (RRel q s fair zs a0 len0 cap0)) (SomeRow 34 4 (.slice va k vc) k)) := Lib.hid (by
              obtain ⟨a1, a2, F, G, b1, b2, b3, b4, b5⟩ := O.out.more (Pair.framed (Rel.framed _ _) (RRel.framed _ _ _ _ _ _ _)) (RowOf.framed _ _ _ _ _) hk5
              exact ⟨a1, a2, F, G, b1, ⟨_, b2⟩, b3, b4, b5⟩)
            clear E1 O hk5 c2 Q
            go_wp2_with fail
            go_loopw [25] (fun i wr => ∃ j : Nat, j ≤ k ∧ i = .int .i64 j ∧ Own2 w.heap.size w wr (Pair (Rel p s) (RRel q s fair zs a0 len0 cap0)) (SomeRow 34 4 (.slice va k vc) k)) (fun i _ => k - (intOf i).toNat)
            case atStart => exact ⟨0, Nat.zero_le _, rfl, O5.out⟩
            case round =>
              obtain ⟨j, hj, rfl, hI⟩ := hrel
              have I6 := Lib.hid hI
              clear hI
              by_cases hjk : j < k
              · obtain ⟨F, xs, hr, -⟩ := I6.out.it2
                obtain ⟨g, rfl⟩ : ∃ g, va = some ⟨g, 0, none⟩ := by
                  rcases hr.2 with ⟨e, _⟩ | ⟨g, cap, _, e, _⟩
                  · simp only [Value.slice.injEq] at e; omega
                  · simp only [Value.slice.injEq] at e; exact ⟨g, e.1⟩
                have d0 := hr.cellAt (j * 4 + 2) (by omega)
                have z0 := hr.frozenAt (j * 4 + 2)
                have hxl : j * 4 + 2 < xs.length := by have := hr.1; omega
                rw [List.getElem?_eq_getElem hxl] at d0
                generalize xs[j * 4 + 2] = old at d0
                clear hr
                go_wp2_with fail
                go_roundw
                case rel => exact ⟨j + 1, by omega, by go_num, I6.out.turn2 (Pair.framed (Rel.framed _ _) (RRel.framed _ _ _ _ _ _ _)) (SomeRow.store (j * 4 + 2) _)⟩
                case measure => simp [intOf]; omega
              · have D1 := Lib.hid ((I6.out.left.more (Pair.framed (Rel.framed _ _) (RRel.framed _ _ _ _ _ _ _)) (Keeps.drewN (fun _ => False) wr 1)))
                have V2 := Lib.hid (view_at D1.out.split.it1 (by rw [LS.out]; omega))
                rw [LS.out] at V2
                obtain ⟨G, sk, sa, ss, hob, -⟩ := D1.out.split.it2
                obtain ⟨yb, yd, hss⟩ := row1_shape (hob.part (i := 2) rfl)
                subst hss
                have RY : Hid ((wr.drewN 1).ownsRow 0 34 4 (.slice yb s.seen.length yd) s.seen.length (s.seen.flatMap evCells)) := Lib.hid (hob.part (i := 2) rfl)
                have y2 := hob.cell (i := 2) rfl
                rw [LS.out] at RY y2
                have KC : Hid (∀ w8, Keeps (fun _ => False) (wr.drewN 1) w8 → w8.cell? ⟨q, 2, none⟩ = some (.slice yb k yd)) := Lib.hid (fun w8 h8 => by
                  have := (RRel.framed q s fair zs a0 len0 cap0)
                  exact (World.cell?_of_block (w := wr.drewN 1) (h8.block q hob.plt (fun h => h))).trans y2)
                have EV : Hid (∀ w8 va8 vc8, Fresh (wr.drewN 1) w8 34 4 k (s.seen.flatMap evCells) (.slice va8 k vc8) → Calls Try.prog 19 #[.slice va8 k vc8, .slice yb k yd] w8 fun e w' => e = .returned (.bool true) ∧ Keeps (fun _ => False) (wr.drewN 1) w') :=
                  Lib.hid (fun w8 va8 vc8 hf => (events_same va8 yb k vc8 yd s.seen LS.out w8 hf.1 (row_keeps RY.out hf.2.1 (fun _ _ h => h))).mono fun e w' h => ⟨h.1, hf.2.1.trans h.2 (fun _ _ h => h)⟩)
                have FIN : Hid (∀ w9, Keeps (fun _ => False) (wr.drewN 1) w9 → Below w.heap.size w w9) := Lib.hid (fun w9 h9 => D1.out.below.trans (h9.below D1.out.size (fun _ h => h.elim)))
                clear hob D1 RY I6
                go_wp2_with fail
                go_region_held3 (fun w' => w'.cell? ⟨q, 2, none⟩ = some (.slice yb k yd))
                  (assumption)
                  (first
                    | (go_at_call_of 18 (Value.pointer (some ⟨p, 0, none⟩)); refine V2.out.mono ?_; rintro e w8 ⟨v8, rfl, hf8⟩; obtain ⟨va8, vc8, hv8⟩ := row1_shape hf8.1; subst hv8; have HF8 := Lib.hid hf8; have y8 := KC.out _ hf8.2.1; clear hf8)
                    | (go_at_call 19; refine (EV.out _ _ _ (Hid.out (by assumption))).mono ?_; rintro e w9 ⟨rfl, hk9⟩; have HK9 := Lib.hid hk9; have y9 := KC.out _ hk9; clear hk9)
                    | fail)
                all_goals
                  go_wp2_with fail
                  go_ret
                  exact ⟨rfl, FIN.out _ (Hid.out (by assumption))⟩
end Go.Proofs.Yteclbfkeiejbeaa
