/-
  No statement is proved here: 'Get' of the document's relay, as a contract.
-/
import Derived.Test.YteclbfkeiejbeaaRefPut
namespace Go.Proofs.Yteclbfkeiejbeaa
open Go.RowKit Go.Maps

set_option maxRecDepth 100000 in
set_option maxHeartbeats 4000000 in
theorem rget_at {p : Nat} {s : St} {fair : Bool} {zs : List Int} {a0 : Option Addr} {len0 cap0 : Nat} {w : World} {F : Nat → Prop} (h : RRel p s fair zs a0 len0 cap0 w F) (hz : Ways w a0 len0 cap0 zs) (hl : s.seen.length < 65536) (a n : Int) :
    Calls Try.prog 15 #[.pointer (some ⟨p, 0, none⟩), .int .i64 a, .int .i64 n] w fun e w' => e = .returned (.tuple #[str (s.got n).1, .int .i64 (s.got n).2]) ∧ Turns w F w' (RRel p (s.saw ⟨a, false, n, []⟩) fair zs a0 len0 cap0) := by
  obtain ⟨wy, hwy⟩ : ∃ wy, s.way = wy := ⟨_, rfl⟩
  have S := Lib.hid (rway_at ⟨F, h⟩ hz wy hwy)
  have rm : (wy : Int).tmod 8 = ((wy % 8 : Nat) : Int) := (Int.ofNat_tmod wy 8).symm
  have rq : (wy : Int).tdiv 8 = ((wy / 8 : Nat) : Int) := (Int.ofNat_tdiv wy 8).symm
  have HRR := Lib.hid h
  obtain ⟨i34, hi, hz0, hz1, hz2⟩ := info_parts Try.info34
  have hm : s.seen.length + 1 ≤ maxLen := by unfold maxLen; omega
  have hm' : (s.seen.length + 1) * 40 ≤ 140737488355328 := by omega
  have h1c : ∀ u ∈ [Value.int .i64 a, .bool false, .int .i64 n, .string ⟨#[]⟩], u.oneCell' = true := by intro u hu; simp at hu; rcases hu with rfl | rfl | rfl | rfl <;> rfl
  obtain ⟨s1, hs1⟩ : ∃ s1, s1 = s.saw ⟨a, false, n, []⟩ := ⟨_, rfl⟩
  obtain ⟨x, hx⟩ : ∃ x : ByteArray, lookD s.kept n = x.data.toList := ⟨⟨(lookD s.kept n).toArray⟩, rfl⟩
  obtain ⟨t, ht⟩ : ∃ t, (look s.kept n).isSome = t := ⟨_, rfl⟩
  obtain ⟨q, hq⟩ : ∃ q, q = wy / 8 := ⟨_, rfl⟩
  obtain ⟨kd, hkd⟩ : ∃ kd, kd = wy % 8 := ⟨_, rfl⟩
  rw [← hq] at rq
  rw [← hkd] at rm
  obtain ⟨r, hr⟩ : ∃ r, r = s.got n := ⟨_, rfl⟩
  have HR := hr
  unfold St.got at hr
  rw [hwy, hx, ht, ← hq, ← hkd] at hr
  rw [← HR, ← hs1]
  clear HR
  have hxs : x.size ≤ 9223372036854775806 := by
    obtain ⟨_, _, _, _, _, _, _, _, _, hf2, _⟩ := h
    have e : x.size = (lookD s.kept n).length := by rw [hx]; simp
    rw [e]
    unfold lookD
    cases hlk : look s.kept n with
    | none => simp
    | some y => exact Nat.le_trans (hf2 n y hlk) (by decide)
  have hq8 : q ≤ 1152921504606846975 := by
    obtain ⟨_, _, _, _, hways, _, _, _, _, _, hzz⟩ := h
    have hz' : ∀ z ∈ s.ways, z ≤ 9223372036854775807 := fun z hzm => by
      rw [hways] at hzm
      split at hzm
      · cases hzm
      · exact hzz z hzm
    have : s.way ≤ 9223372036854775807 := by
      unfold St.way
      split
      · omega
      · rename_i hne
        have hlt : s.seen.length % s.ways.length < s.ways.length := Nat.mod_lt _ (List.length_pos_iff.2 hne)
        have := hz' _ (List.getElem_mem hlt)
        simp only [List.getD, List.getElem?_eq_getElem hlt, Option.getD_some]
        omega
    omega
  have E1 : Hid (s1.seen.length = s.seen.length + 1 ∧ s1.seen.flatMap evCells = s.seen.flatMap evCells ++ [.int .i64 a, .bool false, .int .i64 n, .string ⟨#[]⟩] ∧ s1.kept = s.kept ∧ s1.all = s.all ∧ s1.ways = s.ways) :=
    Lib.hid (by rw [hs1]; exact ⟨by simp [St.saw], by simp [St.saw, List.flatMap_append, evCells, str], rfl, rfl, rfl⟩)
  have G := Lib.hid hr
  have HX := Lib.hid hx
  have HT0 := Lib.hid ht
  clear hz h hl hwy hq hkd hr hx ht hs1
  go_enter Try.func15, Try.ntmps15
  go_wp2_with fail
  refine S.out.mono ?_; rintro e w1 ⟨rfl, hk1⟩
  obtain ⟨sk, sa, ss, h1, r1, r2, r3, r4, r5, r6, r7⟩ := (RRel.framed _ _ _ _ _ _ _).kept _ _ _ _ HRR.out hk1 (fun _ _ h => h)
  have K1 := Lib.hid hk1
  have R := Lib.hid (And.intro r1 (And.intro r2 (And.intro r3 (And.intro r4 (And.intro r5 (And.intro r6 r7))))))
  obtain ⟨qa, qc, hss⟩ := row1_shape (h1.part (i := 2) rfl)
  subst hss
  have O1 := Lib.hid h1
  have hrow2 : (w1.alloc (.cells #[.int .i64 a, .bool false, .int .i64 n, .string ⟨#[]⟩] 34)).ownsRow 0 34 4 (.slice qa s.seen.length qc) s.seen.length (s.seen.flatMap evCells) := World.ownsRow.alloc (h1.part (i := 2) rfl) _
  have c2 := h1.cell (i := 2) rfl
  have hp := h1.plt
  clear S hk1 r1 r2 r3 r4 r5 r6 r7 h1
  go_upto_region 3 with (at_builtin; refine wpList_append_own_at _ rfl (.tmp 18) (.tmp 22) 23 rfl 0 34 i34 _ 4 40 Try.underlying23 hi hz0 hz1 hz2 rfl (by decide) _ _ _ rfl hrow2 ⟨w1.heap.size, 0, none⟩ 1 1 [.int .i64 a, .bool false, .int .i64 n, .string ⟨#[]⟩] rfl rfl (cells_new _ _ _) h1c hm hm' (Nat.zero_le _) ?_; intro v' w2 hrow2' hgrow2 _ hloc2; obtain ⟨⟨a2, cc2, hv2⟩, x2, xf2, hT2⟩ := O1.out.appends (i := 2) rfl ((Keeps.refl _ _).alloc _) 1 _ w2 v' hrow2' hgrow2 hloc2; subst hv2; have HT2 := Lib.hid hT2; have y2 := x2 2 _ rfl; have z2 := xf2 2; clear hT2 x2 xf2 hrow2' hgrow2 hloc2)
  obtain ⟨W3, hW3⟩ : ∃ W3, W3 = w2.setCell ⟨p, 2, none⟩ (.slice a2 (s.seen.length + 1) cc2) := ⟨_, rfl⟩
  rw [← hW3] at HT2 ⊢
  clear hW3 y2 z2 hrow2 c2 hp hm hm' h1c hi hz0 hz1 hz2
  obtain ⟨F3, h3, hk3, hf3⟩ := HT2.out
  have RR : Hid (RRel p s1 fair zs a0 len0 cap0 W3 F3) := Lib.hid (by
    refine ⟨sk, sa, .slice a2 (s.seen.length + 1) cc2, ?_, ?_⟩
    · rw [E1.out.1, E1.out.2.1, E1.out.2.2.1, E1.out.2.2.2.1]; exact h3
    · rw [E1.out.1, E1.out.2.2.1, E1.out.2.2.2.1, E1.out.2.2.2.2]
      obtain ⟨r1, r2, r3, r4, r5, r6, r7⟩ := R.out
      exact ⟨r1, r2, r3, by omega, by omega, r6, r7⟩)
  have K3 : Hid (Turns w F W3 (RRel p s1 fair zs a0 len0 cap0)) := Lib.hid (Turns.chain (K1.out.mono (fun _ _ h => h.elim)) (fun b hb => .inl hb) ⟨F3, RR.out, hk3, hf3⟩)
  have hrA : Hid (W3.ownsRow 0 9 1 sa s.all.length (s.all.map str)) := Lib.hid (h3.part (i := 1) rfl)
  have c1 := h3.cell (i := 1) rfl
  have C17 := Lib.hid (rhas_at ⟨F3, RR.out⟩ n (x := x) (t := t) (by rw [E1.out.2.2.1]; exact HX.out) (by rw [E1.out.2.2.1]; exact HT0.out))
  clear h3 hk3 hf3 HT2 O1 K1 R HX HT0 RR
  go_wp2_with fail
  refine C17.out.mono ?_; rintro e w' ⟨rfl, rfl⟩
  clear C17
  by_cases k4 : kd = 4
  · have E : Hid (r = ([], 8)) := by show r = _; rw [G.out, if_pos k4]
    subst k4
    go_wp2_with fail
    go_ret2
    exact ⟨by rw [E.out]; rfl, K3.out⟩
  by_cases k5 : kd = 5
  · by_cases ha : s.all = []
    · have E : Hid (r = ([], 3)) := by show r = _; rw [G.out, if_neg k4, if_neg (fun h => h.2 ha), if_pos (.inl k5)]
      subst k5
      have hl0 : s.all.length = 0 := by rw [ha]; rfl
      obtain ⟨aa, ca, hsa⟩ := row1_shape hrA.out
      rw [hl0] at hsa
      subst hsa
      clear k4 ha hl0
      go_wp2_with fail
      go_ret2
      exact ⟨by rw [E.out]; rfl, K3.out⟩
    · have hpos : s.all.length ≠ 0 := fun e => ha (List.eq_nil_of_length_eq_zero e)
      have hlt : q % s.all.length < s.all.length := Nat.mod_lt _ (by omega)
      obtain ⟨y, hy⟩ : ∃ y : ByteArray, y.data.toList = s.all[q % s.all.length] := ⟨⟨(s.all[q % s.all.length]).toArray⟩, rfl⟩
      have E : Hid (r = (y.data.toList, 0)) := by show r = _; rw [G.out, if_neg k4, if_pos ⟨k5, ha⟩, hy]; simp [List.getD, hlt]
      have hat : (s.all.map str)[q % s.all.length]? = some (.string y) := by rw [str_eq hy]; simp [hlt]
      have rl : (q : Int).tmod (s.all.length : Int) = ((q % s.all.length : Nat) : Int) := (Int.ofNat_tmod q s.all.length).symm
      obtain ⟨g, ca, hsa, hcell⟩ := row_at hrA.out hlt
      have hb := (row_shape hrA.out).choose_spec.choose_spec.2.2
      rw [hat] at hcell
      subst hsa
      subst k5
      clear k4 ha hy hat hrA G
      generalize s.all.length = nl at *
      generalize q % nl = j at *
      go_wp2_with fail
      go_quiet (fail)
      go_wp2_with fail
      go_ret2
      exact ⟨by rw [E.out]; show Ending.returned (.tuple #[.string y, .int .i64 0]) = .returned (.tuple #[str y.data.toList, .int .i64 0]); rw [← str_of], K3.out.more (RRel.framed _ _ _ _ _ _ _) (Keeps.drewN _ _ _)⟩
  by_cases k6 : kd = 6
  · have E : Hid (r = ([], 3)) := by show r = _; rw [G.out, if_neg k4, if_neg (fun h => k5 h.1), if_pos (.inr (.inl k6))]
    subst k6
    clear k4 k5
    go_wp2_with fail
    go_ret2
    exact ⟨by rw [E.out]; rfl, K3.out⟩
  have b4 : ((kd : Int) == 4) = false := by simp; omega
  have b5 : ((kd : Int) == 5) = false := by simp; omega
  have b6 : ((kd : Int) == 6) = false := by simp; omega
  cases t with
  | false =>
    have E : Hid (r = ([], 3)) := by show r = _; rw [G.out, if_neg k4, if_neg (fun h => k5 h.1), if_pos (.inr (.inr rfl))]
    clear k4 k5 k6
    go_wp2_with fail
    go_ret2
    exact ⟨by rw [E.out]; rfl, K3.out⟩
  | true =>
    have no : ¬ (kd = 5 ∨ kd = 6 ∨ true = false) := by rintro (h | h | h); exact k5 h; exact k6 h; cases h
    by_cases k7 : kd = 7
    · have E : Hid (r = (x.data.toList.take (q % (x.data.toList.length + 1)), 0)) := by show r = _; rw [G.out, if_neg k4, if_neg (fun h => k5 h.1), if_neg no, if_pos k7]
      obtain ⟨j, hj⟩ : ∃ j, j = q % (x.size + 1) := ⟨_, rfl⟩
      have hjx : j ≤ x.size := by have := Nat.mod_lt q (show x.size + 1 > 0 by omega); omega
      have rl : (q : Int).tmod ((x.size : Int) + 1) = (j : Int) := by rw [hj]; exact (Int.ofNat_tmod q (x.size + 1)).symm
      have HE : Hid (Value.string (x.extract 0 j) = str r.1 ∧ r.2 = 0) := by
        show Value.string (x.extract 0 j) = str r.1 ∧ r.2 = 0
        rw [E.out]
        refine ⟨str_eq ?_, rfl⟩
        rw [hj]; simp
      subst k7
      clear k4 k5 k6 no b4 b5 b6 hj
      go_wp2_with fail
      go_ret2
      exact ⟨ret_tuple2 HE.out.1 (by rw [HE.out.2]; rfl), K3.out⟩
    · have E : Hid (r = (x.data.toList, 0)) := by show r = _; rw [G.out, if_neg k4, if_neg (fun h => k5 h.1), if_neg no, if_neg k7]
      have b7 : ((kd : Int) == 7) = false := by simp; omega
      clear k4 k5 k6 k7 no
      go_wp2_with fail
      go_ret2
      exact ⟨by rw [E.out]; show Ending.returned (.tuple #[.string x, .int .i64 0]) = .returned (.tuple #[str x.data.toList, .int .i64 0]); rw [← str_of], K3.out⟩
end Go.Proofs.Yteclbfkeiejbeaa
