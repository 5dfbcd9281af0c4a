/-
  No statement is proved here: 'Rename', 'Remove', 'Sync' of a disk, as contracts.
-/
import Derived.Test.YtnijencmoceiaaaWait
import Derived.Test.YtnijencmoceiaaaLib
namespace Go.Proofs.Ytnijencmoceiaaa
open Go.RowKit Go.Maps

/-- A call that asks for a file, then does a deed. -/
def St.asked (s : St) (a : Str) (x : Deed) : St := if s.has a = 0 then s.wait x else s
def St.askErr (s : St) (a : Str) : Int := if s.has a = 0 then s.err else s.has a
theorem has_cases (s : St) (a : Str) : s.has a = 0 ∨ s.has a = 3 ∨ s.has a = 14 := by
  unfold St.has; split <;> (try split) <;> simp

set_option maxRecDepth 100000 in
set_option maxHeartbeats 400000 in
theorem rename_at {p : Nat} {s : St} {w : World} {F : Nat → Prop} (h : Dk p s w F) (a b : ByteArray) (ha : a.size ≤ 65535) (hb : b.size ≤ 65535) (hl : s.waits.length < 65536) (hK : s.there.length < 65536) :
    Calls Try.prog 15 #[.pointer (some ⟨p, 0, none⟩), .string a, .string b] w fun e w' => e = .returned (.int .i64 (s.askErr a.data.toList)) ∧ Turns w F w' (Dk p (s.asked a.data.toList (.rn a.data.toList b.data.toList))) := by
  have H1 := has_at ⟨F, h⟩ a (long_ok ha)
  have W1 := wait_at h (.rn a.data.toList b.data.toList) ⟨by simpa using ha, by simpa using hb⟩ hl hK
  have ev : (Deed.rn a.data.toList b.data.toList).val = .iface 70 (.agg #[.string a, .string b]) := by simp [Deed.val, Deed.ty, Deed.recv, ← str_of]
  rw [ev] at W1
  unfold St.askErr St.asked
  have R0 := Lib.hid (Turns.refl h)
  clear h hl hK ev
  have hc := has_cases s a.data.toList
  generalize s.has a.data.toList = k at *
  by_cases h0 : k = 0
  · subst h0
    simp only [if_true]
    have HW := Lib.hid W1
    have HH := Lib.hid H1
    clear H1 W1 hc
    go_enter Try.func15, Try.ntmps15
    go_wp2_with fail
    refine HH.out.mono ?_; rintro e w' ⟨rfl, rfl⟩
    go_wp2_with fail
    refine HW.out.mono ?_; rintro e w' ⟨rfl, ht⟩
    have HT := Lib.hid ht
    clear ht HW HH R0
    go_wp2_with fail
    go_ret
    exact ⟨rfl, HT.out⟩
  · simp only [if_neg h0]
    have HH := Lib.hid H1
    have hk : (k == 0) = false := by simpa using h0
    clear H1 W1 hc h0
    go_enter Try.func15, Try.ntmps15
    go_wp2_with fail
    refine HH.out.mono ?_; rintro e w' ⟨rfl, rfl⟩
    go_wp2_with fail
    go_ret
    exact ⟨rfl, R0.out⟩

set_option maxRecDepth 100000 in
set_option maxHeartbeats 400000 in
theorem remove_at {p : Nat} {s : St} {w : World} {F : Nat → Prop} (h : Dk p s w F) (a : ByteArray) (ha : a.size ≤ 65535) (hl : s.waits.length < 65536) (hK : s.there.length < 65536) :
    Calls Try.prog 17 #[.pointer (some ⟨p, 0, none⟩), .string a] w fun e w' => e = .returned (.int .i64 (s.askErr a.data.toList)) ∧ Turns w F w' (Dk p (s.asked a.data.toList (.rm a.data.toList))) := by
  have H1 := has_at ⟨F, h⟩ a (long_ok ha)
  have W1 := wait_at h (.rm a.data.toList) (by simpa [Deed.short] using ha) hl hK
  have ev : (Deed.rm a.data.toList).val = .iface 73 (.agg #[.string a]) := by simp [Deed.val, Deed.ty, Deed.recv, ← str_of]
  rw [ev] at W1
  unfold St.askErr St.asked
  have R0 := Lib.hid (Turns.refl h)
  clear h hl hK ev
  have hc := has_cases s a.data.toList
  generalize s.has a.data.toList = k at *
  by_cases h0 : k = 0
  · subst h0
    simp only [if_true]
    have HW := Lib.hid W1
    have HH := Lib.hid H1
    clear H1 W1 hc
    go_enter Try.func17, Try.ntmps17
    go_wp2_with fail
    refine HH.out.mono ?_; rintro e w' ⟨rfl, rfl⟩
    go_wp2_with fail
    refine HW.out.mono ?_; rintro e w' ⟨rfl, ht⟩
    have HT := Lib.hid ht
    clear ht HW HH R0
    go_wp2_with fail
    go_ret
    exact ⟨rfl, HT.out⟩
  · simp only [if_neg h0]
    have HH := Lib.hid H1
    have hk : (k == 0) = false := by simpa using h0
    clear H1 W1 hc h0
    go_enter Try.func17, Try.ntmps17
    go_wp2_with fail
    refine HH.out.mono ?_; rintro e w' ⟨rfl, rfl⟩
    go_wp2_with fail
    go_ret
    exact ⟨rfl, R0.out⟩

theorem Keeps.of_below0 {w w' : World} (h : Below w.heap.size w w') : Keeps (fun _ => False) w w' :=
  (Keeps.of_below h).mono (fun k hk hk' => by omega)
/-- maps.Clone. -/
theorem clone_at (m : Nat) (K : Files) (w : World) (h : Owns w m K) :
    Calls Try.prog 41 #[.map (some m)] w fun e w' => ∃ g, e = .returned (.map (some g)) ∧ g = w.heap.size ∧ Owns w' g K ∧ Keeps (fun _ => False) w w' := by
  have hcon := AnyW.maps_Clone_owns Try.cloneA 9 _ m _ _ w h
  change Calls Try.prog 41 _ _ _ at hcon
  refine hcon.mono ?_
  rintro e w' ⟨rfl, h1, _, hB⟩
  exact ⟨_, rfl, rfl, h1, Keeps.of_below0 hB⟩

/-- All is kept. -/
def St.sync (s : St) : St := if s.down then s else if s.armed = 1 then s.stop else { s.stop with kept := s.there, waits := [] }
def St.syncErr (s : St) : Int := if s.down then 14 else s.err

set_option maxRecDepth 100000 in
set_option maxHeartbeats 1000000 in
theorem sync_at {p : Nat} {s : St} {w : World} {F : Nat → Prop} (h : Dk p s w F) :
    Calls Try.prog 19 #[.pointer (some ⟨p, 0, none⟩)] w fun e w' => e = .returned (.int .i64 s.syncErr) ∧ Turns w F w' (Dk p s.sync) := by
  have S1 := Lib.hid (stops_at h)
  obtain ⟨t, ht⟩ : ∃ t, t = (s.armed == 1) := ⟨_, rfl⟩
  rw [← ht] at S1
  obtain ⟨d, hd⟩ : ∃ d, d = s.down := ⟨_, rfl⟩
  have R0 := Lib.hid (Turns.refl h)
  have c4 : w.cell? ⟨p, 4, none⟩ = some (.bool d) := by obtain ⟨mk, mt, pv, h, g⟩ := h; rw [hd]; exact h.cell (i := 4) rfl
  clear h
  cases d with
  | true =>
    have E1 : Hid (s.syncErr = 14 ∧ s.sync = s) := Lib.hid (by unfold St.syncErr St.sync; rw [← hd]; exact ⟨rfl, rfl⟩)
    clear hd ht S1
    go_enter Try.func19, Try.ntmps19
    go_wp2_with fail
    go_ret
    exact ⟨ret_int E1.out.1.symm, by rw [E1.out.2]; exact R0.out⟩
  | false =>
    cases t with
    | true =>
      have ha : s.armed = 1 := by simpa using ht.symm
      have E1 : Hid (s.syncErr = 14 ∧ s.sync = s.stop) := Lib.hid (by unfold St.syncErr St.sync St.err; rw [← hd, ha]; exact ⟨rfl, rfl⟩)
      clear hd ht ha
      go_enter Try.func19, Try.ntmps19
      go_wp2_with fail
      refine S1.out.mono ?_; rintro e w1 ⟨rfl, ht⟩
      have HT := Lib.hid ht
      clear ht S1
      go_wp2_with fail
      go_ret
      exact ⟨ret_int E1.out.1.symm, by rw [E1.out.2]; exact HT.out⟩
    | false =>
      have ha : s.armed ≠ 1 := by simpa using ht.symm
      have E1 : Hid (s.syncErr = 0 ∧ s.sync = { s.stop with kept := s.there, waits := [] }) := Lib.hid (by unfold St.syncErr St.sync St.err; rw [← hd]; simp [ha])
      clear hd ht ha
      go_enter Try.func19, Try.ntmps19
      go_wp2_with fail
      refine S1.out.mono ?_; rintro e w1 ⟨rfl, ht⟩
      obtain ⟨F1, ⟨mk, mt, pv, h1, g1⟩, hk1, hF1⟩ := ht
      have c2 := h1.cell (i := 2) rfl
      have C := Lib.hid (clone_at mt s.stop.there w1 (h1.part (i := 2) rfl))
      have O := Lib.hid h1
      have K1 := Lib.hid (And.intro hk1 hF1)
      have hp := h1.plt
      clear h1 hk1 hF1 S1
      go_wp2_with fail
      refine C.out.mono ?_; rintro e w2 ⟨g, rfl, hg, ho, hk⟩
      have hkp := O.out.kept hk (fun _ _ h => h)
      have d1 := hkp.cell (i := 1) rfl
      have d3 := hkp.cell (i := 3) rfl
      have f1 := hkp.frozen 1
      have f3 := hkp.frozen 3
      have P : Hid (Turns w1 F1 ((w2.setCell ⟨p, 1, none⟩ (.map (some g))).setCell ⟨p, 3, none⟩ (.slice none 0 0)) (Dk p { s.stop with kept := s.there, waits := [] })) := Lib.hid (by
        refine (O.out.turn (i := 1) (c' := mapPart g s.there) (v' := .map (some g)) rfl (hk.mono (fun _ _ h => h.elim)) ho (.inr (.inr ⟨g, rfl, by omega⟩))).trans fun F2 h2 => ?_
        refine (h2.turn (i := 3) (c' := Part.row 76 1 (.slice none 0 0) 0 []) (v' := .slice none 0 0) (w1 := _) rfl (Keeps.refl _ _) (World.ownsRow_nil _ _ _ _) (.inl rfl)).imp fun G h3 => ⟨g, mt, .slice none 0 0, h3, ?_⟩
        exact ⟨g1.rt, g1.rt, g1.st, g1.st, (fun y hy => by cases hy), g1.room, g1.armed⟩)
      clear C hk ho hkp hg
      go_wp2_with fail
      go_ret
      exact ⟨ret_int E1.out.1.symm, by rw [E1.out.2]; exact Turns.chain K1.out.1 K1.out.2 P.out⟩
end Go.Proofs.Ytnijencmoceiaaa
