/-
  No statement is proved here: what 'Get' of a relay does, as a contract.
-/
import Derived.Test.YteclbfkeiejbeaaPut
namespace Go.Proofs.Yteclbfkeiejbeaa
open Go.RowKit Go.Maps

/-- What a request for a name is answered. -/
def St.got (s : St) (n : Int) : Str × Int :=
  if s.way % 8 = 4 then ([], 8)
  else if s.way % 8 = 5 ∧ s.all ≠ [] then (s.all.getD (s.way / 8 % s.all.length) [], 0)
  else if s.way % 8 = 5 ∨ s.way % 8 = 6 ∨ (look s.kept n).isSome = false then ([], 3)
  else if s.way % 8 = 7 then ((lookD s.kept n).take (s.way / 8 % ((lookD s.kept n).length + 1)), 0)
  else (lookD s.kept n, 0)

theorem str_eq {x : ByteArray} {l : Str} (h : x.data.toList = l) : Value.string x = str l := by rw [str_of, h]

set_option maxRecDepth 100000 in
set_option maxHeartbeats 1000000 in
theorem get_at {p : Nat} {s : St} {w : World} {F : Nat → Prop} (h : Rel p s w F) (hl : s.seen.length < 65536) (a n : Int) (hn : (Lit.int .i64 n).wf = true) :
    Calls Try.prog 14 #[.pointer (some ⟨p, 0, none⟩), .int .i64 a, .int .i64 n] w fun e w' => e = .returned (.tuple #[str (s.got n).1, .int .i64 (s.got n).2]) ∧ Turns w F w' (Rel p (s.saw ⟨a, false, n, []⟩)) := by
  obtain ⟨wy, hwy⟩ : ∃ wy, s.way = wy := ⟨_, rfl⟩
  have S := Lib.hid (see_at h hl ⟨a, false, n, []⟩ (x := ByteArray.empty) rfl wy hwy)
  have rm : (wy : Int).tmod 8 = ((wy % 8 : Nat) : Int) := (Int.ofNat_tmod wy 8).symm
  have rq : (wy : Int).tdiv 8 = ((wy / 8 : Nat) : Int) := (Int.ofNat_tdiv wy 8).symm
  obtain ⟨s1, hs1⟩ : ∃ s1, s1 = s.saw ⟨a, false, n, []⟩ := ⟨_, rfl⟩
  rw [← hs1] at S ⊢
  obtain ⟨x, hx⟩ : ∃ x : ByteArray, x.data.toList = lookD s.kept n := ⟨⟨(lookD s.kept n).toArray⟩, rfl⟩
  obtain ⟨t, ht⟩ : ∃ t, t = (look s.kept n).isSome := ⟨_, rfl⟩
  obtain ⟨q, hq⟩ : ∃ q, q = wy / 8 := ⟨_, rfl⟩
  obtain ⟨kd, hkd⟩ : ∃ kd, kd = wy % 8 := ⟨_, rfl⟩
  rw [← hq] at rq
  rw [← hkd] at rm
  obtain ⟨r, hr⟩ : ∃ r, r = s.got n := ⟨_, rfl⟩
  have HR := hr
  unfold St.got at hr
  rw [hwy, ← hx, ← ht, ← hq, ← hkd] at hr
  rw [← HR]
  clear HR
  have hsame : s1.kept = s.kept ∧ s1.all = s.all := by rw [hs1]; exact ⟨rfl, rfl⟩
  rw [← hsame.2] at hr
  have LK : Hid (∀ w1 F1, Rel p s1 w1 F1 → ∃ m sa, w1.cell? ⟨p, 0, none⟩ = some (.map (some m)) ∧ w1.cell? ⟨p, 1, none⟩ = some sa ∧ w1.ownsRow 0 9 1 sa s1.all.length (s1.all.map str) ∧
      (Instr.lookup 46 (.map (some m)) (.int .i64 n) true).run Try.prog w1 = .ok (.tuple #[.string x, .bool t]) w1) := Lib.hid (fun w1 F1 h1 => by
    obtain ⟨m, sa, ss, sz, D, h1, hrd, _⟩ := h1
    refine ⟨m, sa, h1.cell (i := 0) rfl, h1.cell (i := 1) rfl, h1.part (i := 1) rfl, ?_⟩
    rw [look_run (h1.part (i := 0) rfl) hrd hn, hsame.1, str_eq hx, ht])
  have hxs : x.size ≤ 9223372036854775806 := by
    obtain ⟨_, _, _, _, _, _, _, _, _, hf2, _⟩ := h
    have e : x.size = (lookD s.kept n).length := by rw [← hx]; simp
    rw [e]
    unfold lookD
    cases hlk : look s.kept n with
    | none => simp
    | some y => exact Nat.le_trans (hf2 n y hlk) (by decide)
  have hq8 : q ≤ 1152921504606846975 := by
    obtain ⟨_, _, _, _, _, _, _, _, _, _, hz⟩ := h
    have : s.way ≤ 9223372036854775807 := by
      unfold St.way
      split
      · omega
      · rename_i hne
        have hlt : s.seen.length % s.ways.length < s.ways.length := Nat.mod_lt _ (List.length_pos_iff.2 hne)
        have := hz _ (List.getElem_mem hlt)
        simp only [List.getD, List.getElem?_eq_getElem hlt, Option.getD_some]
        omega
    omega
  clear hsame hs1 hx ht hq hkd h hl hn hwy
  have G := Lib.hid hr
  clear hr
  by_cases k4 : kd = 4
  · have E : Hid (r = ([], 8)) := by show r = _; rw [G.out, if_pos k4]
    subst k4
    go_enter Try.func14, Try.ntmps14
    go_wp2_with fail
    refine S.out.mono ?_; rintro e w1 ⟨rfl, ht⟩
    have HT := Lib.hid ht
    obtain ⟨F1, h1, -, -⟩ := ht
    obtain ⟨m, sa, c0, c1, -, hrun⟩ := LK.out _ _ h1
    clear h1 LK S
    go_wp2_with fail
    go_ret2
    exact ⟨by rw [E.out]; rfl, HT.out⟩
  by_cases k5 : kd = 5
  · by_cases ha : s1.all = []
    · have E : Hid (r = ([], 3)) := by show r = _; rw [G.out, if_neg k4, if_neg (fun h => h.2 ha), if_pos (.inl k5)]
      subst k5
      have hl0 : s1.all.length = 0 := by rw [ha]; rfl
      clear k4 ha
      go_enter Try.func14, Try.ntmps14
      go_wp2_with fail
      refine S.out.mono ?_; rintro e w1 ⟨rfl, ht⟩
      have HT := Lib.hid ht
      obtain ⟨F1, h1, -, -⟩ := ht
      obtain ⟨m, sa, c0, c1, hrow, hrun⟩ := LK.out _ _ h1
      clear h1 LK S
      obtain ⟨aa, ca, hsa⟩ := row1_shape hrow
      rw [hl0] at hsa
      subst hsa
      clear hrow hl0
      go_wp2_with fail
      go_ret2
      exact ⟨by rw [E.out]; rfl, HT.out⟩
    · have hpos : s1.all.length ≠ 0 := fun e => ha (List.eq_nil_of_length_eq_zero e)
      have hlt : q % s1.all.length < s1.all.length := Nat.mod_lt _ (by omega)
      obtain ⟨y, hy⟩ : ∃ y : ByteArray, y.data.toList = s1.all[q % s1.all.length] := ⟨⟨(s1.all[q % s1.all.length]).toArray⟩, rfl⟩
      have E : Hid (r = (y.data.toList, 0)) := by show r = _; rw [G.out, if_neg k4, if_pos ⟨k5, ha⟩, hy]; simp [List.getD, hlt]
      have hat : (s1.all.map str)[q % s1.all.length]? = some (.string y) := by rw [str_eq hy]; simp [hlt]
      have rl : (q : Int).tmod (s1.all.length : Int) = ((q % s1.all.length : Nat) : Int) := (Int.ofNat_tmod q s1.all.length).symm
      subst k5
      clear k4 ha hy
      go_enter Try.func14, Try.ntmps14
      go_wp2_with fail
      refine S.out.mono ?_; rintro e w1 ⟨rfl, ht⟩
      have HT := Lib.hid ht
      obtain ⟨F1, h1, -, -⟩ := ht
      obtain ⟨m, sa, c0, c1, hrow, hrun⟩ := LK.out _ _ h1
      clear h1 LK S
      obtain ⟨g, ca, hsa, hcell⟩ := row_at hrow hlt
      have hb := (row_shape hrow).choose_spec.choose_spec.2.2
      rw [hat] at hcell
      subst hsa
      generalize s1.all.length = nl at *
      generalize q % nl = j at *
      clear hrow hat
      go_wp2_with fail
      go_quiet (fail)
      go_wp2_with fail
      go_ret2
      exact ⟨by rw [E.out]; show Ending.returned (.tuple #[.string y, .int .i64 0]) = .returned (.tuple #[str y.data.toList, .int .i64 0]); rw [← str_of], HT.out.more (Rel.framed _ _) (Keeps.drewN _ _ _)⟩
  by_cases k6 : kd = 6
  · have E : Hid (r = ([], 3)) := by show r = _; rw [G.out, if_neg k4, if_neg (fun h => k5 h.1), if_pos (.inr (.inl k6))]
    subst k6
    clear k4 k5
    go_enter Try.func14, Try.ntmps14
    go_wp2_with fail
    refine S.out.mono ?_; rintro e w1 ⟨rfl, ht⟩
    have HT := Lib.hid ht
    obtain ⟨F1, h1, -, -⟩ := ht
    obtain ⟨m, sa, c0, c1, -, hrun⟩ := LK.out _ _ h1
    clear h1 LK S
    go_wp2_with fail
    go_ret2
    exact ⟨by rw [E.out]; rfl, HT.out⟩
  have b4 : ((kd : Int) == 4) = false := by simp; omega
  have b5 : ((kd : Int) == 5) = false := by simp; omega
  have b6 : ((kd : Int) == 6) = false := by simp; omega
  cases t with
  | false =>
    have E : Hid (r = ([], 3)) := by show r = _; rw [G.out, if_neg k4, if_neg (fun h => k5 h.1), if_pos (.inr (.inr rfl))]
    clear k4 k5 k6
    go_enter Try.func14, Try.ntmps14
    go_wp2_with fail
    refine S.out.mono ?_; rintro e w1 ⟨rfl, ht⟩
    have HT := Lib.hid ht
    obtain ⟨F1, h1, -, -⟩ := ht
    obtain ⟨m, sa, c0, c1, -, hrun⟩ := LK.out _ _ h1
    clear h1 LK S
    go_wp2_with fail
    go_ret2
    exact ⟨by rw [E.out]; rfl, HT.out⟩
  | true =>
    have no : ¬ (kd = 5 ∨ kd = 6 ∨ true = false) := by rintro (h | h | h); exact k5 h; exact k6 h; cases h
    by_cases k7 : kd = 7
    · have E : Hid (r = (x.data.toList.take (q % (x.data.toList.length + 1)), 0)) := by show r = _; rw [G.out, if_neg k4, if_neg (fun h => k5 h.1), if_neg no, if_pos k7]
      obtain ⟨j, hj⟩ : ∃ j, j = q % (x.size + 1) := ⟨_, rfl⟩
      have hjx : j ≤ x.size := by have := Nat.mod_lt q (show x.size + 1 > 0 by omega); omega
      have rl : (q : Int).tmod ((x.size : Int) + 1) = (j : Int) := by rw [hj]; exact (Int.ofNat_tmod q (x.size + 1)).symm
      have HE : Hid (Value.string (x.extract 0 j) = str r.1 ∧ r.2 = 0) := by
        show Value.string (x.extract 0 j) = str r.1 ∧ r.2 = 0
        rw [E.out]
        refine ⟨str_eq ?_, rfl⟩
        rw [hj]; simp
      subst k7
      clear k4 k5 k6 no b4 b5 b6 hj
      go_enter Try.func14, Try.ntmps14
      go_wp2_with fail
      refine S.out.mono ?_; rintro e w1 ⟨rfl, ht⟩
      have HT := Lib.hid ht
      obtain ⟨F1, h1, -, -⟩ := ht
      obtain ⟨m, sa, c0, c1, -, hrun⟩ := LK.out _ _ h1
      clear h1 LK S
      go_wp2_with fail
      go_ret2
      exact ⟨ret_tuple2 HE.out.1 (by rw [HE.out.2]; rfl), HT.out⟩
    · have E : Hid (r = (x.data.toList, 0)) := by show r = _; rw [G.out, if_neg k4, if_neg (fun h => k5 h.1), if_neg no, if_neg k7]
      have b7 : ((kd : Int) == 7) = false := by simp; omega
      clear k4 k5 k6 k7 no
      go_enter Try.func14, Try.ntmps14
      go_wp2_with fail
      refine S.out.mono ?_; rintro e w1 ⟨rfl, ht⟩
      have HT := Lib.hid ht
      obtain ⟨F1, h1, -, -⟩ := ht
      obtain ⟨m, sa, c0, c1, -, hrun⟩ := LK.out _ _ h1
      clear h1 LK S
      go_wp2_with fail
      go_ret2
      exact ⟨by rw [E.out]; show Ending.returned (.tuple #[.string x, .int .i64 0]) = .returned (.tuple #[str x.data.toList, .int .i64 0]); rw [← str_of], HT.out⟩
end Go.Proofs.Yteclbfkeiejbeaa
