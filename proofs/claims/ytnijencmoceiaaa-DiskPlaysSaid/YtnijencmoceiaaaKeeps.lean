/-
  The walk of 'DiskKeeps': the call returns true and turns nothing that was there: for any steps, synced, then any others.
-/
import Derived.Test.YtnijencmoceiaaaSame
import Derived.Test.YtnijencmoceiaaaStops
namespace Go.Proofs.Ytnijencmoceiaaa
set_option linter.unusedSimpArgs false
set_option linter.unusedVariables false
open Go.RowKit Go.Maps

/-! ### the plain law -/
theorem torn_1 (x : Deed) : x.torn 1 = some x := by
  unfold Deed.torn
  rw [if_neg (by decide)]
  cases x <;> rfl
theorem redo1_1 (K : Files) (x : Deed) : redo1 K x 1 = x.run K := by unfold redo1; rw [torn_1]
theorem redo_congr (K : Files) (ws : List Deed) {z z' : Nat → Int} : ∀ k, (∀ j, j < k → z j = z' j) → redo K ws z k = redo K ws z' k
  | 0, _ => rfl
  | k + 1, h => by
    have ih := redo_congr K ws k (fun j hj => h j (by omega))
    show (match ws[k]? with | some x => redo1 (redo K ws z k) x (z k) | none => redo K ws z k) = (match ws[k]? with | some x => redo1 (redo K ws z' k) x (z' k) | none => redo K ws z' k)
    rw [ih, h k (by omega)]
theorem redo_append (K : Files) (ws : List Deed) (x : Deed) (z : Nat → Int) : ∀ k, k ≤ ws.length → redo K (ws ++ [x]) z k = redo K ws z k
  | 0, _ => rfl
  | k + 1, h => by
    have ih := redo_append K ws x z k (by omega)
    show (match (ws ++ [x])[k]? with | some y => redo1 (redo K (ws ++ [x]) z k) y (z k) | none => redo K (ws ++ [x]) z k) = (match ws[k]? with | some y => redo1 (redo K ws z k) y (z k) | none => redo K ws z k)
    rw [ih, List.getElem?_append_left (by omega)]
/-- What is there is what is kept, and all that is pending done to it. -/
def Whole (s : St) : Prop := redo s.kept s.waits (fun _ => 1) s.waits.length = s.there
theorem Whole.wait {s : St} (h : Whole s) (x : Deed) : Whole (s.wait x) := by
  show redo s.kept (s.waits ++ [x]) (fun _ => 1) (s.waits ++ [x]).length = x.run s.there
  rw [List.length_append, show [x].length = 1 from rfl, redo_succ (x := x) (by simp), redo1_1, redo_append _ _ _ _ _ (Nat.le_refl _)]
  rw [show redo s.kept s.waits (fun _ => 1) s.waits.length = s.there from h]
theorem Whole.step {R : Nat} {s : St} (h : Whole s) (hu : Up R s) (e : StpB) : Whole (s.step e) := by
  unfold St.step
  split
  · unfold St.write
    split
    · exact h
    · split
      · exact h
      · exact h.wait _
  · split
    · unfold St.asked
      split
      · exact h.wait _
      · exact h
    · split
      · unfold St.asked
        split
        · exact h.wait _
        · exact h
      · split
        · unfold St.sync
          rw [hu.down, hu.armed]
          rfl
        · exact h
theorem up_run {R : Nat} {s : St} (h : Up R s) (f : Nat → StpB) : ∀ k, Up R (runN s f k)
  | 0 => h
  | k + 1 => (up_run h f k).step (f k)
theorem whole_run {R : Nat} {s : St} (h : Whole s) (hu : Up R s) (f : Nat → StpB) : ∀ k, Whole (runN s f k)
  | 0 => h
  | k + 1 => (whole_run h hu f k).step (up_run hu f k) (f k)
theorem kept_step {s : St} {e : StpB} (h : kindOf e.which ≠ 3) : (s.step e).kept = s.kept := by
  unfold St.step
  split
  · unfold St.write
    split
    · rfl
    · split <;> rfl
  · split
    · unfold St.asked
      split <;> rfl
    · split
      · unfold St.asked
        split <;> rfl
      · first | rfl | rw [if_neg h]
theorem kept_run (s : St) (f : Nat → StpB) : ∀ k, (∀ j, j < k → kindOf (f j).which ≠ 3) → (runN s f k).kept = s.kept
  | 0, _ => rfl
  | k + 1, h => by
    show ((runN s f k).step (f k)).kept = s.kept
    rw [kept_step (h k (by omega)), kept_run s f k (fun j hj => h j (by omega))]
/-- A disk whose files are all kept. -/
def mk (R : Nat) (K : Files) : St := ⟨R, K, K, [], false, 0⟩
theorem up_mk {R : Nat} {K : Files} (h : total K ≤ R) (hr : Rising K) : Up R (mk R K) := ⟨rfl, rfl, rfl, h, hr⟩
theorem fits_mk {R : Nat} {K : Files} {n : Nat} (h : K.length ≤ n) : Fits (mk R K) n := ⟨h, h, Nat.zero_le _, h⟩
theorem sync_up {R : Nat} {s : St} (h : Up R s) : s.syncErr = 0 ∧ s.sync = mk R s.there := by
  unfold St.syncErr St.sync St.err mk
  rw [h.down, h.armed]
  refine ⟨rfl, ?_⟩
  show St.mk s.room s.there s.there [] (s.armed == 1) (s.armed - 1) = _
  rw [h.armed, h.room]
  rfl
theorem back_none {R : Nat} {s : St} (h : Up R s) : s.restart (fun _ => 0) = mk R s.kept := by
  unfold St.restart mk
  rw [redo_zero, h.room]
theorem back_all {R : Nat} {s : St} (h : Up R s) (hw : Whole s) : s.restart (fun j => if j < s.waits.length then 1 else 0) = mk R s.there := by
  unfold St.restart mk
  rw [redo_congr _ _ (z' := fun _ => 1) _ (fun j hj => by simp [hj]), show redo s.kept s.waits (fun _ => 1) s.waits.length = s.there from hw, h.room]

/-! ### the walk -/
/-- A row of ones, so far. -/
def Ones (g n k : Nat) (w : World) (F : Nat → Prop) : Prop := ∃ xs, RowOf 3 1 (.slice (some ⟨g, 0, none⟩) n n) n xs w F ∧ ∀ i, i < k → xs[i]? = some (.int .i64 1)
theorem Ones.framed (g n k : Nat) : Framed (Ones g n k) :=
  ⟨fun _ _ ⟨_, h, _⟩ => (RowOf.framed _ _ _ _ _).lt _ _ h, fun _ _ _ _ ⟨_, h, r⟩ hk hd => ⟨_, (RowOf.framed _ _ _ _ _).kept _ _ _ _ h hk hd, r⟩⟩
theorem Ones.store {g n k : Nat} {w : World} (hk : k < n) : ∀ F, Ones g n k w F → Turns w F (w.setCell ⟨g, k, none⟩ (.int .i64 1)) (Ones g n (k + 1)) := by
  rintro F ⟨xs, ⟨hr, hF⟩, hx⟩
  obtain ⟨t1, t2⟩ := hr.stored k (.int .i64 1)
  have hl : xs.length = n := by have := hr.1; omega
  refine ⟨F, ⟨_, ⟨t1, hF⟩, fun i hi => ?_⟩, Keeps.grown t2 (fun k hk _ => (hF k).2 hk), fun b hb => .inl hb⟩
  by_cases e : k = i
  · subst e; rw [List.getElem?_set_self (by omega)]
  · rw [List.getElem?_set_ne e]; exact hx i (by omega)
theorem Try.info3 : (Try.prog.info? 3).map (fun i => (i.zero, i.size, i.bytes)) = some (some (.int .i64 0), 1, 8) := by kernel_rfl

set_option maxRecDepth 100000 in
set_option maxHeartbeats 8000000 in
theorem keeps_walk (a : Option Addr) (len cap b off : Nat) (f : Nat → StpB) (ma : Option Addr) (mlen mcap mb moff : Nat) (g : Nat → StpB) (w : World) (h : Stps w a len cap b off f) (hm : Stps w ma mlen mcap mb moff g) :
    Calls Try.prog 4 #[.slice a len cap, .slice ma mlen mcap] w fun e w' => e = .returned (.bool true) ∧ Below w.heap.size w w' := by
  have H := Lib.hid h
  have HM := Lib.hid hm
  have hb := h.bound
  have hbm := hm.bound
  clear h hm
  go_enter Try.func4, Try.ntmps4
  go_wp2_with fail
  refine (small_any _).mono ?_; rintro e w1 ⟨rfl, b1⟩
  have B1 := Lib.hid b1
  clear b1
  go_wp2_with fail
  refine (few_any a len cap b off f _ (H.out.kept B1.out)).mono ?_; rintro e w' ⟨t, rfl, rfl, ht⟩
  have HT := Lib.hid ht
  clear ht
  go_wp2_with fail
  refine (few_any ma mlen mcap mb moff g _ (HM.out.kept B1.out)).mono ?_; rintro e w' ⟨t2, rfl, rfl, ht⟩
  have HT2 := Lib.hid ht
  clear ht
  go_wp2_with fail
  refine (new_add (OwnL.start B1.out B1.out.size) 1048576 (by decide) (m := 1048576) rfl).mono ?_
  rintro e w2 ⟨c, rfl, ho⟩
  have P0 : Hid (OwnL w.heap.size w w2 [Dk c (mk 1048576 [])]) := Lib.hid ho
  clear ho
  go_wp2_with fail
  refine (new_add P0.out 1048576 (by decide) (m := 1048576) rfl).mono ?_
  rintro e w3 ⟨d, rfl, ho⟩
  have P1 : Hid (OwnL w.heap.size w w3 [Dk c (mk 1048576 []), Dk d (mk 1048576 [])]) := Lib.hid ho
  clear ho P0
  cases t with
  | false =>
    go_wp2_with fail
    go_ret
    exact ⟨rfl, P1.out.below⟩
  | true =>
    cases t2 with
    | false =>
      go_wp2_with fail
      go_ret
      exact ⟨rfl, P1.out.below⟩
    | true =>
      obtain ⟨hl, hs⟩ := HT.out rfl
      obtain ⟨hl2, hs2⟩ := HT2.out rfl
      have HS := Lib.hid hs
      have HS2 := Lib.hid hs2
      clear hs HT hs2 HT2
      have HE := Lib.hid (HM.out.kept P1.out.below)
      go_wp2_with fail
      go_loop [10] (fun i => ∃ k : Nat, k ≤ mlen ∧ i = .int .i64 k ∧ ∀ j, j < k → kindOf (g j).which ≠ 3) (fun i => mlen - (intOf i).toNat)
      case atStart => exact ⟨0, Nat.zero_le _, rfl, fun j hj => by omega⟩
      case round =>
        obtain ⟨k, hk, rfl, hno⟩ := hrel
        have NO := Lib.hid hno
        clear hno
        by_cases hlt : k < mlen
        · have hix := fun W => HE.out.index W k hlt
          have c0 := HE.out.c0 k hlt
          have EX : Hid (∀ q, kindOf (g k).which = q → q ≠ 3 → ∀ j, j < k + 1 → kindOf (g j).which ≠ 3) := Lib.hid (fun q hq h3 j hj => by
            by_cases e : j = k
            · subst e; rw [hq]; exact h3
            · exact NO.out j (by omega))
          have hkd := (kind_eq (g k).which).1
          obtain ⟨q, hq⟩ : ∃ q, kindOf (g k).which = q := ⟨_, rfl⟩
          rw [hq] at hkd
          have HQ := Lib.hid hq
          clear hq
          generalize (g k).which = wh at *
          by_cases h3 : q = 3
          · subst h3
            go_wp2
            go_ret
            exact ⟨rfl, P1.out.below⟩
          · have hb3 : ((q : Int) == 3) = false := by simpa using fun e => h3 (by omega)
            have H3 := Lib.hid h3
            clear h3
            go_wp2
            go_round
            case rel => exact ⟨k + 1, by omega, by go_num, EX.out _ HQ.out H3.out⟩
            case measure => simp [intOf]; omega
        · obtain rfl : k = mlen := by omega
          clear HE
          -- the plain law
          obtain ⟨s1, hs1⟩ : ∃ s1, s1 = runN (mk 1048576 []) f len := ⟨_, rfl⟩
          have U1 : Hid (Up 1048576 s1) := Lib.hid (by rw [hs1]; exact up_run (up_mk (Nat.zero_le _) List.Pairwise.nil) f len)
          have F1 : Hid (Fits s1 60) := Lib.hid (by rw [hs1]; exact (fits_run (n := 0) (fits_mk (Nat.le_refl _)) f len).mono (by omega))
          obtain ⟨K1, hK1⟩ : ∃ K, K = s1.there := ⟨_, rfl⟩
          have Y1 : Hid (s1.syncErr = 0 ∧ s1.sync = mk 1048576 K1) := Lib.hid (by rw [hK1]; exact sync_up U1.out)
          have U2 : Hid (Up 1048576 (mk 1048576 K1)) := Lib.hid (by rw [hK1]; exact up_mk U1.out.tot U1.out.rise)
          have L1 : Hid (K1.length ≤ 60) := Lib.hid (by rw [hK1]; exact F1.out.there)
          obtain ⟨s3, hs3⟩ : ∃ s3, s3 = runN (mk 1048576 K1) g k := ⟨_, rfl⟩
          have U3 : Hid (Up 1048576 s3) := Lib.hid (by rw [hs3]; exact up_run U2.out g k)
          have F3 : Hid (Fits s3 120) := Lib.hid (by rw [hs3]; exact (fits_run (n := 60) (fits_mk L1.out) g k).mono (by omega))
          have W3 : Hid (Whole s3) := Lib.hid (by rw [hs3]; exact whole_run (s := mk 1048576 K1) rfl U2.out g k)
          have KE : Hid (s3.kept = K1) := Lib.hid (by rw [hs3]; exact kept_run _ g k NO.out)
          obtain ⟨K3, hK3⟩ : ∃ K, K = s3.there := ⟨_, rfl⟩
          have R1 : Hid (s3.restart (fun _ => 0) = mk 1048576 K1) := Lib.hid (by rw [back_none U3.out, KE.out])
          have R2 : Hid (s3.restart (fun j => if j < s3.waits.length then 1 else 0) = mk 1048576 K3) := Lib.hid (by rw [back_all U3.out W3.out, hK3])
          have U4 : Hid (Up 1048576 (mk 1048576 K3)) := Lib.hid (by rw [hK3]; exact up_mk U3.out.tot U3.out.rise)
          have L3 : Hid (K3.length ≤ 120) := Lib.hid (by rw [hK3]; exact F3.out.there)
          have HS1 := Lib.hid hs1
          have HS3 := Lib.hid hs3
          have HK3 := Lib.hid hK3
          clear hs1 hs3 hK1 hK3
          go_wp2_with fail
          refine (run_own P1.out (i := 0) rfl rfl a len cap b off f H.out HS.out (n := 0) (fits_mk (Nat.le_refl _)) (by omega)).mono ?_; rintro e w4 ⟨rfl, ho⟩
          have P2 : Hid (OwnL w.heap.size w w4 [Dk c s1, Dk d (mk 1048576 [])]) := Lib.hid (by rw [HS1.out]; exact ho)
          clear ho P1
          go_wp2_with fail
          refine (run_own P2.out (i := 1) rfl rfl a len cap b off f H.out HS.out (n := 0) (fits_mk (Nat.le_refl _)) (by omega)).mono ?_; rintro e w5 ⟨rfl, ho⟩
          have P3 : Hid (OwnL w.heap.size w w5 [Dk c s1, Dk d s1]) := Lib.hid (by rw [HS1.out] at ho ⊢; exact ho)
          clear ho P2
          go_wp2_with fail
          refine (P3.out.acts (i := 0) rfl (Dk.framed _ _) (sync_acts Y1.out.1 Y1.out.2).from).mono ?_; rintro e w6 ⟨rfl, ho⟩
          have P4 : Hid (OwnL w.heap.size w w6 [Dk c (mk 1048576 K1), Dk d s1]) := Lib.hid ho
          clear ho P3
          go_wp2_with fail
          refine (P4.out.acts (i := 1) rfl (Dk.framed _ _) (sync_acts Y1.out.1 Y1.out.2).from).mono ?_; rintro e w7 ⟨rfl, ho⟩
          have P5 : Hid (OwnL w.heap.size w w7 [Dk c (mk 1048576 K1), Dk d (mk 1048576 K1)]) := Lib.hid ho
          clear ho P4
          go_wp2_with fail
          refine (pending_own (P5.out.it (i := 0) rfl) (n := 0) rfl).mono ?_; rintro e w' ⟨rfl, rfl⟩
          go_wp2_with fail
          refine (told_add P5.out (i := 0) rfl U2.out (fits_mk (by have := L1.out; omega))).mono ?_; rintro e w8 ⟨ra, rc, rfl, ho⟩
          obtain ⟨fl1, hfl1⟩ : ∃ x, x = flat K1 := ⟨_, rfl⟩
          rw [show (mk 1048576 K1).there = K1 from rfl, ← hfl1] at ho ⊢
          have P6 : Hid (OwnL w.heap.size w w8 [Dk c (mk 1048576 K1), Dk d (mk 1048576 K1), RowOf 9 1 (.slice ra fl1.length rc) fl1.length (fl1.map str)]) := Lib.hid ho
          have HFL1 := Lib.hid hfl1
          clear ho P5 hfl1
          go_wp2_with fail
          refine (run_own P6.out (i := 0) rfl rfl ma k mcap mb moff g HM.out HS2.out (n := 60) (fits_mk L1.out) (by omega)).mono ?_; rintro e w9 ⟨rfl, ho⟩
          have P7 : Hid (OwnL w.heap.size w w9 [Dk c s3, Dk d (mk 1048576 K1), RowOf 9 1 (.slice ra fl1.length rc) fl1.length (fl1.map str)]) := Lib.hid (by rw [HS3.out]; exact ho)
          clear ho P6
          go_wp2_with fail
          refine (run_own P7.out (i := 1) rfl rfl ma k mcap mb moff g HM.out HS2.out (n := 60) (fits_mk L1.out) (by omega)).mono ?_; rintro e wa ⟨rfl, ho⟩
          have P8 : Hid (OwnL w.heap.size w wa [Dk c s3, Dk d s3, RowOf 9 1 (.slice ra fl1.length rc) fl1.length (fl1.map str)]) := Lib.hid (by rw [HS3.out] at ho ⊢; exact ho)
          clear ho P7
          go_wp2_with fail
          refine (told_add P8.out (i := 0) rfl U3.out (F3.out.mono (by omega))).mono ?_; rintro e wb ⟨qa, qc, rfl, ho⟩
          rw [← HK3.out] at ho ⊢
          obtain ⟨fl3, hfl3⟩ : ∃ x, x = flat K3 := ⟨_, rfl⟩
          rw [← hfl3] at ho ⊢
          have P9 : Hid (OwnL w.heap.size w wb [Dk c s3, Dk d s3, RowOf 9 1 (.slice ra fl1.length rc) fl1.length (fl1.map str), RowOf 9 1 (.slice qa fl3.length qc) fl3.length (fl3.map str)]) := Lib.hid ho
          have HFL3 := Lib.hid hfl3
          clear ho P8 hfl3
          obtain ⟨n, hn⟩ : ∃ n, n = s3.waits.length := ⟨_, rfl⟩
          have hn120 : n ≤ 120 := by rw [hn]; exact F3.out.waits
          rw [← hn] at R2
          have HNN := Lib.hid hn
          clear hn
          go_wp2_with fail
          refine (pending_own (P9.out.it (i := 1) rfl) HNN.out.symm).mono ?_; rintro e w' ⟨rfl, rfl⟩
          obtain ⟨i0, hi, hz0, hz1, hz2⟩ := info_parts Try.info3
          have hbm2 : i0.bytes * n ≤ 281474976710656 := by rw [hz2]; omega
          have hmx : n ≤ maxLen := by unfold maxLen; omega
          go_wp2_with (at_make; refine wpList_make_full _ rfl (.tmp 89) (.tmp 89) 29 rfl 0 3 i0 (.int .i64 0) 1 Try.underlying29 hi hz0 hz1 .i64 .i64 _ _ n rfl rfl rfl rfl hbm2 hmx (Nat.zero_le _) ?_; intro wc hrow hgrow)
          have kg : Keeps (fun _ => False) wb wc := Keeps.grown hgrow (fun _ e => by cases e)
          have PA : Hid (OwnL w.heap.size w wc [Dk c s3, Dk d s3, RowOf 9 1 (.slice ra fl1.length rc) fl1.length (fl1.map str), RowOf 9 1 (.slice qa fl3.length qc) fl3.length (fl3.map str), Ones wb.heap.size n 0]) := Lib.hid
            (P9.out.add kg (F' := fun b => b = wb.heap.size) ⟨_, ⟨hrow, fun b => by simp [Value.ownBlock, eq_comm]⟩, fun i hi => by omega⟩ (Ones.framed _ _ _) (fun b hb => by omega))
          clear hrow hgrow kg P9 hi hz0 hz1 hz2 hbm2 hmx
          generalize wb.heap.size = gb at *
          go_loopw [14] (fun i wr => ∃ j : Nat, j ≤ n ∧ i = .int .i64 j ∧ OwnL w.heap.size w wr [Dk c s3, Dk d s3, RowOf 9 1 (.slice ra fl1.length rc) fl1.length (fl1.map str), RowOf 9 1 (.slice qa fl3.length qc) fl3.length (fl3.map str), Ones gb n j]) (fun i _ => n - (intOf i).toNat)
          case atStart => exact ⟨0, Nat.zero_le _, rfl, PA.out⟩
          case round =>
            obtain ⟨j, hj, rfl, ho⟩ := hrel
            have Q := Lib.hid ho
            clear ho
            by_cases hjn : j < n
            · obtain ⟨F, xs, ⟨hr, -⟩, -⟩ := Q.out.it (i := 4) rfl
              have d0 := hr.cellAt j (by omega)
              have z0 := hr.frozenAt j
              have hxl : j < xs.length := by have := hr.1; omega
              rw [List.getElem?_eq_getElem hxl] at d0
              generalize xs[j] = old at d0
              have Q1 : Hid (OwnL w.heap.size w (wr.setCell ⟨gb, j, none⟩ (.int .i64 1)) [Dk c s3, Dk d s3, RowOf 9 1 (.slice ra fl1.length rc) fl1.length (fl1.map str), RowOf 9 1 (.slice qa fl3.length qc) fl3.length (fl3.map str), Ones gb n (j + 1)]) := Lib.hid
                (Q.out.turns (i := 4) rfl (Ones.framed _ _ _) (fun F hF _ => Ones.store hjn F hF))
              clear hr hxl Q
              go_wp2_with fail
              go_roundw
              case rel => exact ⟨j + 1, by omega, by go_num, Q1.out⟩
              case measure => simp [intOf]; omega
            · obtain rfl : j = n := by omega
              have FT3 : Hid (Fits s3 65535) := Lib.hid (F3.out.mono (by omega))
              clear PA
              go_wp2_with fail
              refine (Q.out.acts (i := 0) rfl (Dk.framed _ _) (restart_from FT3.out 0 (ints_nil _ _) R1.out)).mono ?_; rintro e wd ⟨rfl, ho⟩
              have S1 : Hid (OwnL w.heap.size w wd [Dk c (mk 1048576 K1), Dk d s3, RowOf 9 1 (.slice ra fl1.length rc) fl1.length (fl1.map str), RowOf 9 1 (.slice qa fl3.length qc) fl3.length (fl3.map str), Ones gb j j]) := Lib.hid ho
              clear ho Q
              have RC := Lib.hid (S1.out.acts2 (i := 1) (j := 4) rfl rfl (by decide) (Dk.framed _ _) (P := Try.prog) (f := 23) (args := #[.pointer (some ⟨d, 0, none⟩), .slice (some ⟨gb, 0, none⟩) j j]) (R := fun e => e = .returned (.tuple #[])) (O' := Dk d (mk 1048576 K3)) (fun F G hF hG hd => by
                obtain ⟨xs, ⟨hr, hGb⟩, hx⟩ := hG
                have hi : Ints wd F (some ⟨gb, 0, none⟩) j gb 0 (fun i => if i < j then 1 else 0) :=
                  ⟨by omega, fun _ => rfl, fun i hi => by
                    rw [Nat.zero_add, hr.cellAt i (by omega), hx i hi]; simp [hi], fun _ hf => hd gb hf ((hGb gb).2 rfl), fun i hi => by simp [hi], fun i hi => by simp; omega⟩
                rw [← R2.out]
                exact restart_at hF _ j j gb 0 _ hi (by have := FT3.out.both; omega)))
              go_wp2_with fail
              refine RC.out.mono ?_; rintro e we ⟨rfl, ho⟩
              have S2 : Hid (OwnL w.heap.size w we [Dk c (mk 1048576 K1), Dk d (mk 1048576 K3), RowOf 9 1 (.slice ra fl1.length rc) fl1.length (fl1.map str), RowOf 9 1 (.slice qa fl3.length qc) fl3.length (fl3.map str), Ones gb j j]) := Lib.hid ho
              clear ho S1 RC
              have T1 := Lib.hid (told_add S2.out (i := 0) rfl U2.out (fits_mk (by have := L1.out; omega)))
              rw [show (mk 1048576 K1).there = K1 from rfl, ← HFL1.out] at T1
              go_wp2_with fail
              refine T1.out.mono ?_; rintro e wf ⟨ta, tc, rfl, ho⟩
              have S3 : Hid (OwnL w.heap.size w wf [Dk c (mk 1048576 K1), Dk d (mk 1048576 K3), RowOf 9 1 (.slice ra fl1.length rc) fl1.length (fl1.map str), RowOf 9 1 (.slice qa fl3.length qc) fl3.length (fl3.map str), Ones gb j j, RowOf 9 1 (.slice ta fl1.length tc) fl1.length (fl1.map str)]) := Lib.hid ho
              clear ho S2 T1
              go_wp2_with fail
              refine (rows_own S3.out (i := 5) (j := 2) rfl rfl rfl).mono ?_; rintro e wg ⟨rfl, ho⟩
              have S4 := Lib.hid ho
              clear ho S3
              have T2 := Lib.hid (told_add S4.out (i := 1) rfl U4.out (fits_mk (by have := L3.out; omega)))
              rw [show (mk 1048576 K3).there = K3 from rfl, ← HFL3.out] at T2
              go_wp2_with fail
              refine T2.out.mono ?_; rintro e wh ⟨ua, uc, rfl, ho⟩
              have S5 : Hid (OwnL w.heap.size w wh [Dk c (mk 1048576 K1), Dk d (mk 1048576 K3), RowOf 9 1 (.slice ra fl1.length rc) fl1.length (fl1.map str), RowOf 9 1 (.slice qa fl3.length qc) fl3.length (fl3.map str), Ones gb j j, RowOf 9 1 (.slice ta fl1.length tc) fl1.length (fl1.map str), RowOf 9 1 (.slice ua fl3.length uc) fl3.length (fl3.map str)]) := Lib.hid ho
              clear ho S4 T2
              go_wp2_with fail
              refine (rows_own S5.out (i := 6) (j := 3) rfl rfl rfl).mono ?_; rintro e wi ⟨rfl, ho⟩
              have S6 := Lib.hid ho
              clear ho S5
              go_wp2_with fail
              refine (down_own (S6.out.it (i := 0) rfl) (d := false) rfl).mono ?_; rintro e w' ⟨rfl, rfl⟩
              go_wp2_with fail
              refine (pending_own (S6.out.it (i := 1) rfl) (n := 0) rfl).mono ?_; rintro e w' ⟨rfl, rfl⟩
              go_wp2_with fail
              go_ret
              exact ⟨rfl, S6.out.below⟩
end Go.Proofs.Ytnijencmoceiaaa
