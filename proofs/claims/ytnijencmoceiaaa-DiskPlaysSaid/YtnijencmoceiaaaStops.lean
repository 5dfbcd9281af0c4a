/-
  The walk of 'DiskStops': the call returns true and turns nothing that was there: for any two numbers.
-/
import Derived.Test.YtnijencmoceiaaaTorn
namespace Go.Proofs.Ytnijencmoceiaaa
set_option linter.unusedSimpArgs false
set_option linter.unusedVariables false
open Go.RowKit Go.Maps

/-- What a disk keeps behind i writes of one file, armed with m. -/
structure Wrote (m i : Nat) (s : St) : Prop where
  room : s.room = 1048576
  kept : s.kept = []
  there : s.there = if i = 0 then [] else [([97], [49])]
  waits : s.waits.length ≤ i
  down : s.down = decide (1 ≤ m ∧ m ≤ i)
  armed : s.down = false → s.armed = m - i
theorem Wrote.fits {m i : Nat} {s : St} (h : Wrote m i s) (hi : i ≤ 60) : Fits s 65535 := by
  have h1 := h.waits
  have h2 : s.there.length ≤ 1 := by rw [h.there]; split <;> simp
  have h3 : s.kept.length = 0 := by rw [h.kept]; rfl
  exact ⟨by omega, by omega, by omega, by omega⟩
theorem Wrote.step {m i : Nat} {s : St} (h : Wrote m i s) : s.writeErr [97] [49] = (if m < 1 ∨ i + 1 < m then 0 else 14) ∧ Wrote m (i + 1) (s.write [97] [49]) := by
  have hput : putF s.there [97] [49] = [([97], [49])] := by rw [h.there]; split <;> first | exact putF_nil _ _ | exact putF_one _ _ _
  cases hd : s.down with
  | true =>
    have hm : 1 ≤ m ∧ m ≤ i := by have := h.down; rw [hd] at this; simpa using this.symm
    unfold St.writeErr St.write
    rw [hd, if_neg (show ¬ (m < 1 ∨ i + 1 < m) by omega)]
    refine ⟨rfl, h.room, h.kept, ?_, Nat.le_trans h.waits (by omega), ?_, fun h' => by rw [if_pos rfl, hd] at h'; cases h'⟩
    · rw [if_pos rfl, h.there, if_neg (by omega), if_neg (by omega)]
    · rw [if_pos rfl, hd]; simp; omega
  | false =>
    have hm : ¬ (1 ≤ m ∧ m ≤ i) := by have := h.down; rw [hd] at this; simpa using this.symm
    have ha := h.armed hd
    have hf : s.full [97] [49] = false := by unfold St.full; rw [hput, total_one, h.room]; rfl
    unfold St.writeErr St.write
    rw [hd, hf]
    simp only [Bool.false_eq_true, if_false]
    refine ⟨?_, h.room, h.kept, ?_, ?_, ?_, ?_⟩
    · unfold St.err; rw [ha]
      by_cases h1 : m < 1 ∨ i + 1 < m
      · rw [if_pos h1, if_neg (by omega)]
      · rw [if_neg h1, if_pos (by omega)]
    · rw [if_neg (by omega)]; exact hput
    · have := h.waits
      show (s.waits ++ [_]).length ≤ _
      simp; omega
    · show (s.armed == 1) = _
      rw [ha, Bool.eq_iff_iff]; simp; omega
    · intro _
      show s.armed - 1 = _
      rw [ha]; omega
theorem redo_zero (K : Files) (ws : List Deed) : ∀ k, redo K ws (fun _ => 0) k = K
  | 0 => rfl
  | k + 1 => by
    cases h : ws[k]? with
    | some x => rw [redo_succ h, redo_zero K ws k]; rfl
    | none =>
      show (match ws[k]? with | some x => redo1 (redo K ws (fun _ => 0) k) x ((fun _ => 0) k) | none => redo K ws (fun _ => 0) k) = _
      rw [h]; exact redo_zero K ws k
theorem Wrote.back {m i : Nat} {s : St} (h : Wrote m i s) : s.restart (fun _ => 0) = v0 := by
  unfold St.restart v0
  rw [redo_zero, h.kept, h.room]
theorem Wrote.read {m i : Nat} {s : St} (h : Wrote m i s) : s.read [97] = if (1 ≤ m ∧ m ≤ i) ∨ i = 0 then ([], false) else ([49], true) := by
  unfold St.read
  rw [h.down, h.there]
  by_cases h1 : 1 ≤ m ∧ m ≤ i
  · simp [h1]
  · by_cases h2 : i = 0
    · subst h2; simp [h1, lookD, look]
    · simp [h1, h2, lookD, look]
theorem Wrote.names {m i : Nat} {s : St} (h : Wrote m i s) : s.names = if (1 ≤ m ∧ m ≤ i) ∨ i = 0 then [] else [[97]] := by
  unfold St.names
  rw [h.down, h.there]
  by_cases h1 : 1 ≤ m ∧ m ≤ i
  · simp [h1]
  · by_cases h2 : i = 0
    · subst h2; simp [h1]
    · simp [h1, h2]
theorem wrote_0 (m : Nat) : Wrote m 0 { v0 with armed := m } := ⟨rfl, rfl, rfl, Nat.le_refl _, by simp [v0]; omega, fun _ => rfl⟩
theorem x0 : v0.names = [] := rfl
theorem x1 : v0.writeErr [97] [50] = 0 ∧ v0.write [97] [50] = v1 [97] [50] := ww0 _ _ (by decide)

set_option maxRecDepth 100000 in
set_option maxHeartbeats 2000000 in
theorem stops_walk (n c : Int) (w : World) (hn : (Lit.int .i64 n).wf = true) (hc : (Lit.int .i64 c).wf = true) :
    Calls Try.prog 8 #[.int .i64 n, .int .i64 c] w fun e w' => e = .returned (.bool true) ∧ Below w.heap.size w w' := by
  have HN : Hid (n ≤ 9223372036854775807) := Lib.hid (by simp [Lit.wf, IntKind.min, IntKind.max, IntKind.signed, IntKind.bits] at hn; omega)
  clear hn hc
  by_cases hs : 0 ≤ c ∧ c ≤ 60
  · obtain ⟨c, rfl⟩ : ∃ k : Nat, c = k := ⟨c.toNat, by omega⟩
    have h60 : c ≤ 60 := by omega
    clear hs
    go_enter Try.func8, Try.ntmps8
    go_wp2_with fail
    refine (small_any _).mono ?_; rintro e w1 ⟨rfl, b1⟩
    have B1 := Lib.hid b1
    clear b1
    go_wp2_with fail
    refine (new_own 1048576 (by decide) (m := 1048576) rfl B1.out B1.out.size).mono ?_
    rintro e w2 ⟨p, rfl, h⟩
    have P : Hid (Own1 w.heap.size w w2 (Dk p v0)) := Lib.hid h
    clear h
    go_wp2_with fail
    obtain ⟨m, hm⟩ : ∃ m, m = n.toNat := ⟨_, rfl⟩
    have HM := Lib.hid hm
    refine (arm_own P.out n HN.out (s' := { v0 with armed := m }) (by rw [hm])).mono ?_; rintro e w3 ⟨rfl, h⟩
    have P1 := Lib.hid h
    clear h hm
    go_wp2_with fail
    go_loopw [7] (fun i wr => ∃ k : Nat, k ≤ c ∧ i = .int .i64 ((k : Int) + 1) ∧ ∃ s : St, Wrote m k s ∧ Own1 w.heap.size w wr (Dk p s)) (fun i _ => c + 1 - (intOf i).toNat)
    case atStart => exact ⟨0, Nat.zero_le _, rfl, _, wrote_0 m, P1.out⟩
    case round =>
      obtain ⟨k, hk, rfl, s, hws, ho⟩ := hrel
      have WS := Lib.hid hws
      have Q := Lib.hid ho
      clear hws ho
      by_cases hlt : k < c
      · have FT := Lib.hid (WS.out.fits (by omega))
        have ST := Lib.hid WS.out.step
        obtain ⟨er, her⟩ : ∃ er, er = s.writeErr [97] [49] := ⟨_, rfl⟩
        have WR := Lib.hid (write_own Q.out FT.out ⟨#[97]⟩ ⟨#[49]⟩ (by decide) (by decide) her.symm rfl)
        rw [ST.out.1] at her
        rcases (show n < 1 ∨ (1 ≤ n ∧ (k : Int) + 1 < n) ∨ (1 ≤ n ∧ n ≤ (k : Int) + 1) by omega) with h1 | ⟨h1, h2⟩ | ⟨h1, h2⟩
        rw [if_pos (.inl (by have := HM.out; omega))] at her
        rotate_left
        rw [if_pos (.inr (by have := HM.out; omega))] at her
        rotate_left
        rw [if_neg (by have := HM.out; omega)] at her
        rotate_left
        all_goals
          subst her
          go_wp2_with fail
          refine WR.out.mono ?_; rintro e w4 ⟨rfl, h⟩
          have R := Lib.hid h
          clear h WR
          go_wp2_with fail
          go_roundw
          case rel => exact ⟨k + 1, by omega, by go_num, _, ST.out.2, R.out⟩
          case measure => simp [intOf]; omega
      · obtain rfl : k = c := by omega
        have FT := Lib.hid (WS.out.fits h60)
        have BK : Hid (s.restart (fun _ => 0) = v0) := Lib.hid WS.out.back
        have RD := Lib.hid WS.out.read
        have NM := Lib.hid WS.out.names
        have DN : Hid (s.down = decide (1 ≤ m ∧ m ≤ k)) := Lib.hid WS.out.down
        have FS := Lib.hid FT.out
        by_cases hdn : 1 ≤ n ∧ n ≤ k
        · have hd2 : Hid (1 ≤ m ∧ m ≤ k) := Lib.hid (by have := HM.out; omega)
          have c1 := Lib.hid (read_own Q.out.it ⟨#[97]⟩ (by decide) (x := ⟨#[]⟩) (t := false) (by rw [RD.out, if_pos (.inl hd2.out)]))
          have c2 := Lib.hid (down_own Q.out.it (d := true) (by rw [DN.out]; simpa using hd2.out))
          have c3 := Lib.hid (names_own Q.out FT.out (ns := []) (by rw [NM.out, if_pos (.inl hd2.out)]))
          obtain ⟨hd3, hd4⟩ := hdn
          have hk0 : 0 < k := by omega
          clear FT RD NM DN WS P P1 B1
          go_wp2_with fail
          refine c1.out.mono ?_; rintro e w' ⟨rfl, rfl⟩
          go_wp2_with fail
          refine c2.out.mono ?_; rintro e w' ⟨rfl, rfl⟩
          go_wp2_with fail
          refine c3.out.mono ?_; rintro e w4 ⟨v, rfl, h⟩
          obtain ⟨_, hr, _⟩ := h.it2
          obtain ⟨va, vc, hv, -⟩ := row_shape hr
          subst hv
          have Q2 := Lib.hid h.left
          clear h hr c1 c2 c3 Q
          go_wp2_with fail
          refine (restart_own Q2.out FS.out 0 (ints_nil _ _) BK.out).mono ?_; rintro e w5 ⟨rfl, h⟩
          have Q3 := Lib.hid h
          clear h Q2 BK FS
          go_wp2_with fail
          refine (down_own Q3.out.it (d := false) rfl).mono ?_; rintro e w' ⟨rfl, rfl⟩
          go_wp2_with fail
          refine (names_own Q3.out (fit_v _ (by decide)) x0).mono ?_; rintro e w6 ⟨v, rfl, h⟩
          obtain ⟨_, hr, _⟩ := h.it2
          obtain ⟨vb, vd, hv, -⟩ := row_shape hr
          subst hv
          have Q4 := Lib.hid h.left
          clear h hr Q3
          go_wp2_with fail
          refine (write_own Q4.out (fit_v _ (by decide)) ⟨#[97]⟩ ⟨#[50]⟩ (by decide) (by decide) x1.1 x1.2).mono ?_; rintro e w7 ⟨rfl, h⟩
          have Q5 := Lib.hid h
          clear h Q4
          go_wp2_with fail
          refine (sync_own Q5.out (ww1 _ _).1 (ww1 _ _).2).mono ?_; rintro e w8 ⟨rfl, h⟩
          have Q6 := Lib.hid h
          clear h Q5
          go_wp2_with fail
          go_ret
          exact ⟨rfl, Q6.out.below⟩
        · have hd2 : Hid (¬ (1 ≤ m ∧ m ≤ k)) := Lib.hid (by have := HM.out; omega)
          have c2 := Lib.hid (down_own Q.out.it (d := false) (by rw [DN.out]; simpa using hd2.out))
          by_cases h0 : k = 0
          · have c1 := Lib.hid (read_own Q.out.it ⟨#[97]⟩ (by decide) (x := ⟨#[]⟩) (t := false) (by rw [RD.out, if_pos (.inr h0)]))
            have c3 := Lib.hid (names_own Q.out FT.out (ns := []) (by rw [NM.out, if_pos (.inr h0)]))
            subst h0
            rcases (show n < 1 ∨ 1 ≤ n by omega) with hn1 | hn1
            all_goals
              clear FT RD NM DN WS P P1 B1
              go_wp2_with fail
              refine c1.out.mono ?_; rintro e w' ⟨rfl, rfl⟩
              go_wp2_with fail
              refine c2.out.mono ?_; rintro e w' ⟨rfl, rfl⟩
              go_wp2_with fail
              refine c3.out.mono ?_; rintro e w4 ⟨v, rfl, h⟩
              obtain ⟨_, hr, _⟩ := h.it2
              obtain ⟨va, vc, hv, -⟩ := row_shape hr
              subst hv
              have Q2 := Lib.hid h.left
              clear h hr c1 c2 c3 Q
              go_wp2_with fail
              refine (restart_own Q2.out FS.out 0 (ints_nil _ _) BK.out).mono ?_; rintro e w5 ⟨rfl, h⟩
              have Q3 := Lib.hid h
              clear h Q2 BK FS
              go_wp2_with fail
              refine (down_own Q3.out.it (d := false) rfl).mono ?_; rintro e w' ⟨rfl, rfl⟩
              go_wp2_with fail
              refine (names_own Q3.out (fit_v _ (by decide)) x0).mono ?_; rintro e w6 ⟨v, rfl, h⟩
              obtain ⟨_, hr, _⟩ := h.it2
              obtain ⟨vb, vd, hv, -⟩ := row_shape hr
              subst hv
              have Q4 := Lib.hid h.left
              clear h hr Q3
              go_wp2_with fail
              refine (write_own Q4.out (fit_v _ (by decide)) ⟨#[97]⟩ ⟨#[50]⟩ (by decide) (by decide) x1.1 x1.2).mono ?_; rintro e w7 ⟨rfl, h⟩
              have Q5 := Lib.hid h
              clear h Q4
              go_wp2_with fail
              refine (sync_own Q5.out (ww1 _ _).1 (ww1 _ _).2).mono ?_; rintro e w8 ⟨rfl, h⟩
              have Q6 := Lib.hid h
              clear h Q5
              go_wp2_with fail
              go_ret
              exact ⟨rfl, Q6.out.below⟩
          · have h0' : Hid (k ≠ 0) := Lib.hid h0
            have c1 := Lib.hid (read_own Q.out.it ⟨#[97]⟩ (by decide) (x := ⟨#[49]⟩) (t := true) (by rw [RD.out, if_neg (fun h => h.elim hd2.out h0'.out)]))
            have c3 := Lib.hid (names_own Q.out FT.out (ns := [[97]]) (by rw [NM.out, if_neg (fun h => h.elim hd2.out h0'.out)]))
            have hk0 : 0 < k := by omega
            rcases (show n < 1 ∨ (1 ≤ n ∧ (k : Int) < n) by omega) with hn1 | ⟨hn1, hn2⟩
            all_goals
              clear hdn h0
              clear FT RD NM DN WS P P1 B1
              go_wp2_with fail
              refine c1.out.mono ?_; rintro e w' ⟨rfl, rfl⟩
              go_wp2_with fail
              refine c2.out.mono ?_; rintro e w' ⟨rfl, rfl⟩
              go_wp2_with fail
              refine c3.out.mono ?_; rintro e w4 ⟨v, rfl, h⟩
              obtain ⟨_, hr, _⟩ := h.it2
              obtain ⟨va, vc, hv, -⟩ := row_shape hr
              subst hv
              have Q2 := Lib.hid h.left
              clear h hr c1 c2 c3 Q
              go_wp2_with fail
              refine (restart_own Q2.out FS.out 0 (ints_nil _ _) BK.out).mono ?_; rintro e w5 ⟨rfl, h⟩
              have Q3 := Lib.hid h
              clear h Q2 BK FS
              go_wp2_with fail
              refine (down_own Q3.out.it (d := false) rfl).mono ?_; rintro e w' ⟨rfl, rfl⟩
              go_wp2_with fail
              refine (names_own Q3.out (fit_v _ (by decide)) x0).mono ?_; rintro e w6 ⟨v, rfl, h⟩
              obtain ⟨_, hr, _⟩ := h.it2
              obtain ⟨vb, vd, hv, -⟩ := row_shape hr
              subst hv
              have Q4 := Lib.hid h.left
              clear h hr Q3
              go_wp2_with fail
              refine (write_own Q4.out (fit_v _ (by decide)) ⟨#[97]⟩ ⟨#[50]⟩ (by decide) (by decide) x1.1 x1.2).mono ?_; rintro e w7 ⟨rfl, h⟩
              have Q5 := Lib.hid h
              clear h Q4
              go_wp2_with fail
              refine (sync_own Q5.out (ww1 _ _).1 (ww1 _ _).2).mono ?_; rintro e w8 ⟨rfl, h⟩
              have Q6 := Lib.hid h
              clear h Q5
              go_wp2_with fail
              go_ret
              exact ⟨rfl, Q6.out.below⟩
  · rcases (show c < 0 ∨ 60 < c by omega) with h | h
    all_goals
      clear hs
      go_enter Try.func8, Try.ntmps8
      go_wp2_with fail
      refine (small_any _).mono ?_; rintro e w1 ⟨rfl, b1⟩
      have B1 := Lib.hid b1
      clear b1
      go_wp2_with fail
      refine (new_own 1048576 (by decide) (m := 1048576) rfl B1.out B1.out.size).mono ?_
      rintro e w2 ⟨p, rfl, h⟩
      have P := Lib.hid h
      clear h
      go_wp2_with fail
      go_ret
      exact ⟨rfl, P.out.below⟩
end Go.Proofs.Ytnijencmoceiaaa
