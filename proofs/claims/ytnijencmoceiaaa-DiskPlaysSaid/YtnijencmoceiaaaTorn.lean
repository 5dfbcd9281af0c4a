/-
  The walk of 'DiskTorn': the call returns true and turns nothing that was there: for any name, any data, any number.
-/
import Derived.Test.YtnijencmoceiaaaSmall
namespace Go.Proofs.Ytnijencmoceiaaa
set_option linter.unusedVariables false
open Go.RowKit Go.Maps

def v0 : St := ⟨1048576, [], [], [], false, 0⟩
def v1 (a x : Str) : St := ⟨1048576, [], [(a, x)], [.wr a x], false, 0⟩
def v2 (a x : Str) : St := ⟨1048576, [(a, x)], [(a, x)], [], false, 0⟩
def v3 (a x : Str) : St := ⟨1048576, [(a, x)], [(a, x)], [], false, 1⟩
def v4 (a x d : Str) : St := ⟨1048576, [(a, x)], [(a, d)], [.wr a d], true, 0⟩
def v5 (a y : Str) : St := ⟨1048576, [(a, y)], [(a, y)], [], false, 0⟩
theorem putF_nil (a d : Str) : putF [] a d = [(a, d)] := rfl
theorem putF_one (a x d : Str) : putF [(a, x)] a d = [(a, d)] := by simp [putF, dropF, ins]
theorem total_one (a d : Str) : total [(a, d)] = d.length := by simp [total]
theorem full_0 (a x : Str) (h : x.length ≤ 500) : v0.full a x = false := by
  unfold St.full; rw [show v0.there = [] from rfl, putF_nil, total_one, show v0.room = 1048576 from rfl]; simp; omega
theorem ww0 (a x : Str) (h : x.length ≤ 500) : v0.writeErr a x = 0 ∧ v0.write a x = v1 a x := by
  unfold St.writeErr St.write
  rw [full_0 a x h]; exact ⟨rfl, rfl⟩
theorem ww1 (a x : Str) : (v1 a x).syncErr = 0 ∧ (v1 a x).sync = v2 a x := ⟨rfl, rfl⟩
theorem ww2 (a x : Str) : { v2 a x with armed := (1 : Int).toNat } = v3 a x := rfl
theorem ww3 (a x d : Str) (h : d.length ≤ 500) : (v3 a x).writeErr a d = 14 ∧ (v3 a x).write a d = v4 a x d := by
  have hf : (v3 a x).full a d = false := by
    unfold St.full; rw [show (v3 a x).there = [(a, x)] from rfl, putF_one, total_one, show (v3 a x).room = 1048576 from rfl]; simp; omega
  unfold St.writeErr St.write
  rw [hf]
  refine ⟨rfl, ?_⟩
  show St.wait (v3 a x) (.wr a d) = _
  unfold St.wait St.did St.stop v4
  simp [v3, Deed.run, putF_one]
theorem ww4 (a x d y : Str) : (v4 a x d).writeErr a y = 14 ∧ (v4 a x d).write a y = v4 a x d := ⟨rfl, rfl⟩
theorem ww5 (a x d : Str) : (v4 a x d).syncErr = 14 ∧ (v4 a x d).sync = v4 a x d := ⟨rfl, rfl⟩
theorem ww6 (a x d : Str) (n : Int) {y : Str} (h : redo1 [(a, x)] (.wr a d) n = [(a, y)]) : (v4 a x d).restart (fun j => [n].getD j 0) = v5 a y := by
  unfold St.restart
  have : redo (v4 a x d).kept (v4 a x d).waits (fun j => [n].getD j 0) (v4 a x d).waits.length = [(a, y)] := by
    show redo1 [(a, x)] (.wr a d) n = _
    exact h
  rw [this]; rfl
theorem r0 (a x d : Str) (n : Int) (h : n ≤ 0) : redo1 [(a, x)] (.wr a d) n = [(a, x)] := by
  unfold redo1 Deed.torn; rw [if_pos h]
theorem r1 (a x d : Str) : redo1 [(a, x)] (.wr a d) 1 = [(a, d)] := putF_one a x d
theorem r2 (a x d : Str) (n : Int) (h : 1 < n) : redo1 [(a, x)] (.wr a d) n = [(a, d.take (n - 2).toNat)] := by
  unfold redo1 Deed.torn; rw [if_neg (by omega)]; simp only [if_pos h]; exact putF_one _ _ _
theorem fit_v (s : St) (h : s.kept.length ≤ 1 ∧ s.there.length ≤ 1 ∧ s.waits.length ≤ 1) : Fits s 65535 := ⟨by omega, by omega, by omega, by omega⟩
theorem read_v5 (a y : Str) : (v5 a y).read a = (y, true) := by
  unfold St.read; simp [v5, lookD, look]

set_option maxRecDepth 100000 in
set_option maxHeartbeats 2000000 in
theorem torn_walk (a x d : ByteArray) (n : Int) (w : World) (ha : a.size ≤ maxLen) (hx : x.size ≤ maxLen) (hd : d.size ≤ maxLen) (hn : (Lit.int .i64 n).wf = true) :
    Calls Try.prog 7 #[.string a, .string x, .string d, .int .i64 n] w fun e w' => e = .returned (.bool true) ∧ Below w.heap.size w w' := by
  have hn63 : n ≤ 9223372036854775807 := by simp [Lit.wf, IntKind.min, IntKind.max, IntKind.signed, IntKind.bits] at hn; omega
  clear hn
  by_cases hs : a.size ≤ 200 ∧ x.size ≤ 500 ∧ d.size ≤ 500
  · obtain ⟨h1, h2, h3⟩ := hs
    clear ha hx hd
    -- what is read in the end
    obtain ⟨y, hy, hw⟩ : ∃ y : ByteArray, redo1 [(a.data.toList, x.data.toList)] (.wr a.data.toList d.data.toList) n = [(a.data.toList, y.data.toList)] ∧
        ((n ≤ 0 ∧ y = x) ∨ (n = 1 ∧ y = d) ∨ ∃ m j : Nat, n = (m : Int) + 2 ∧ j = min m d.size ∧ y = d.extract 0 j) := by
      rcases (show n ≤ 0 ∨ n = 1 ∨ 1 < n by omega) with h | h | h
      · exact ⟨x, r0 _ _ _ _ h, .inl ⟨h, rfl⟩⟩
      · subst h; exact ⟨d, r1 _ _ _, .inr (.inl ⟨rfl, rfl⟩)⟩
      · refine ⟨d.extract 0 (min (n - 2).toNat d.size), ?_, .inr (.inr ⟨(n - 2).toNat, _, by omega, rfl, rfl⟩)⟩
        rw [r2 _ _ _ _ h]
        have : d.data.toList.take (n - 2).toNat = (d.extract 0 (min (n - 2).toNat d.size)).data.toList := by
          simp
        rw [this]
    have HW := Lib.hid hw
    have HY := Lib.hid hy
    have HN := Lib.hid hn63
    have L : Hid (a.size ≤ 65535 ∧ x.size ≤ 65535 ∧ d.size ≤ 65535 ∧ x.data.toList.length ≤ 500 ∧ d.data.toList.length ≤ 500) := Lib.hid ⟨by omega, by omega, by omega, by simpa using h2, by simpa using h3⟩
    clear hw hy hn63
    go_enter Try.func7, Try.ntmps7
    go_wp2_with fail
    refine (small_any _).mono ?_; rintro e w1 ⟨rfl, b1⟩
    have B1 := Lib.hid b1
    clear b1
    go_wp2_with fail
    refine (new_own 1048576 (by decide) (m := 1048576) rfl B1.out B1.out.size).mono ?_
    rintro e w2 ⟨p, rfl, h⟩
    have P : Hid (Own1 w.heap.size w w2 (Dk p v0)) := Lib.hid h
    clear h
    go_wp2_with fail
    refine (write_own P.out (fit_v _ (by decide)) a x L.out.1 L.out.2.1 (ww0 _ _ L.out.2.2.2.1).1 (ww0 _ _ L.out.2.2.2.1).2).mono ?_; rintro e w3' ⟨rfl, h⟩
    have P1 := Lib.hid h; clear h
    go_wp2_with fail
    refine (sync_own P1.out (ww1 _ _).1 (ww1 _ _).2).mono ?_; rintro e w4' ⟨rfl, h⟩
    have P2 := Lib.hid h; clear h
    go_wp2_with fail
    refine (arm_own P2.out 1 (by decide) (ww2 _ _)).mono ?_; rintro e w5' ⟨rfl, h⟩
    have P3 := Lib.hid h; clear h
    go_wp2_with fail
    refine (write_own P3.out (fit_v _ (by simp [v3])) a d L.out.1 L.out.2.2.1 (ww3 _ _ _ L.out.2.2.2.2).1 (ww3 _ _ _ L.out.2.2.2.2).2).mono ?_; rintro e w6' ⟨rfl, h⟩
    have P4 := Lib.hid h; clear h
    go_wp2_with fail
    refine (down_own P4.out.it (d := true) rfl).mono ?_; rintro e w' ⟨rfl, rfl⟩
    go_wp2_with fail
    refine (write_own P4.out (fit_v _ (by simp [v4])) a ⟨#[]⟩ L.out.1 (by decide) (ww4 _ _ _ _).1 (ww4 _ _ _ _).2).mono ?_; rintro e w7' ⟨rfl, h⟩
    have P5 := Lib.hid h; clear h
    go_wp2_with fail
    refine (sync_own P5.out (ww5 _ _ _).1 (ww5 _ _ _).2).mono ?_; rintro e w8' ⟨rfl, h⟩
    have P6 := Lib.hid h; clear h
    go_wp2_with fail
    refine (restart_lit P6.out (fit_v _ (by simp [v4])) [n] 1 rfl (by simpa using HN.out) (by decide) _ rfl (ww6 _ _ _ _ HY.out)).mono ?_; rintro e w9' ⟨rfl, h⟩
    have P7 := Lib.hid h; clear h
    go_wp2_with fail
    refine (read_own P7.out.it a L.out.1 (x := y) (t := true) (read_v5 _ _)).mono ?_; rintro e w' ⟨rfl, rfl⟩
    have D7 := Lib.hid (down_own P7.out.it (d := false) rfl)
    have E7 := Lib.hid (pending_own P7.out.it (n := 0) rfl)
    have FIN : Hid (Below w.heap.size w w9') := Lib.hid P7.out.below
    rcases HW.out with ⟨h, rfl⟩ | ⟨rfl, rfl⟩ | ⟨m, j, rfl, hj, rfl⟩
    · clear P1 P2 P3 P4 P5 P6 P7 HW HY HN
      go_wp2_with fail
      refine D7.out.mono ?_; rintro e w' ⟨rfl, rfl⟩
      go_wp2_with fail
      refine E7.out.mono ?_; rintro e w' ⟨rfl, rfl⟩
      go_wp2_with fail
      go_ret
      exact ⟨rfl, FIN.out⟩
    · clear P1 P2 P3 P4 P5 P6 P7 HW HY HN
      go_wp2_with fail
      refine D7.out.mono ?_; rintro e w' ⟨rfl, rfl⟩
      go_wp2_with fail
      refine E7.out.mono ?_; rintro e w' ⟨rfl, rfl⟩
      go_wp2_with fail
      go_ret
      exact ⟨rfl, FIN.out⟩
    · have hjd : j ≤ d.size := by omega
      have S : Go.RowKit.wrap64 ((m : Int) + 2 - 2) = (m : Int) := by
        have := HN.out
        unfold Go.RowKit.wrap64; omega
      have M : min (m : Int) (d.size : Int) = (j : Int) := by omega
      have h0 : 1 < (m : Int) + 2 := by omega
      clear P1 P2 P3 P4 P5 P6 P7 HW HY HN hj
      generalize ((m : Int) + 2) = z at *
      go_wp2_with fail
      refine D7.out.mono ?_; rintro e w' ⟨rfl, rfl⟩
      go_wp2_with fail
      refine E7.out.mono ?_; rintro e w' ⟨rfl, rfl⟩
      go_wp2_with fail
      go_ret
      exact ⟨rfl, FIN.out⟩
  · unfold maxLen at ha hx hd
    have HN := Lib.hid hn63
    clear hn63
    rcases (show 200 < a.size ∨ (a.size ≤ 200 ∧ 500 < x.size) ∨ (a.size ≤ 200 ∧ x.size ≤ 500 ∧ 500 < d.size) by omega) with h | ⟨h, h'⟩ | ⟨h, h', h''⟩
    all_goals
      clear hs
      go_enter Try.func7, Try.ntmps7
      go_wp2_with fail
      refine (small_any _).mono ?_; rintro e w1 ⟨rfl, b1⟩
      have B1 := Lib.hid b1
      clear b1
      go_wp2_with fail
      refine (new_own 1048576 (by decide) (m := 1048576) rfl B1.out B1.out.size).mono ?_
      rintro e w2 ⟨p, rfl, h⟩
      have P := Lib.hid h
      clear h
      go_wp2_with fail
      go_ret
      exact ⟨rfl, P.out.below⟩
end Go.Proofs.Ytnijencmoceiaaa
