/-
  No statement is proved here: the document's 'Sync', as a contract.
-/
import Derived.Test.YtnijencmoceiaaaRefOps2
namespace Go.Proofs.Ytnijencmoceiaaa
set_option linter.unusedSimpArgs false
set_option linter.unusedVariables false
open Go.RowKit Go.Maps

theorem fres_loc {w w' : World} {v v' : Value} {K' : Files} {n : Nat} {xs : List Value} (h : FRes w w' v v' K') : (Part.row 67 2 v' K'.length (K'.flatMap fc)).home = none ∨ (Part.row 67 2 v' K'.length (K'.flatMap fc)).home = (Part.row 67 2 v n xs).home ∨ ∃ g, (Part.row 67 2 v' K'.length (K'.flatMap fc)).home = some g ∧ w.heap.size ≤ g := by
  rcases h.2.2 with rfl | e
  · exact .inr (.inl rfl)
  · cases hb : v'.ownBlock with
    | none => exact .inl hb
    | some g => exact .inr (.inr ⟨g, hb, e g hb⟩)

set_option maxRecDepth 100000 in
set_option maxHeartbeats 1000000 in
theorem rsync_at {p : Nat} {s : St} {w : World} {F : Nat → Prop} (h : RDk p s w F) (hf : Fits s 65535) :
    Calls Try.prog 20 #[.pointer (some ⟨p, 0, none⟩)] w fun e w' => e = .returned (.int .i64 s.syncErr) ∧ Turns w F w' (RDk p s.sync) := by
  have H := Lib.hid h
  obtain ⟨kv, hv0⟩ := h
  have m3 := (rdk_cells hv0 (Keeps.refl _ w)).2
  obtain ⟨dn, hdn⟩ : ∃ dn, s.down = dn := ⟨_, rfl⟩
  rw [hdn] at m3
  cases dn with
  | true =>
    have E : Hid (s.syncErr = 14 ∧ s.sync = s) := Lib.hid (by unfold St.syncErr St.sync; rw [hdn]; exact ⟨rfl, rfl⟩)
    clear hv0 hf hdn
    go_enter Try.func20, Try.ntmps20
    go_wp2_with fail
    go_ret
    exact ⟨ret_int E.out.1.symm, by rw [E.out.2]; exact Turns.refl H.out⟩
  | false =>
    have S1 := Lib.hid (rstops_at H.out hdn)
    obtain ⟨t, ht⟩ : ∃ t, t = (s.armed == 1) := ⟨_, rfl⟩
    rw [← ht] at S1
    have FT : Hid (Fits s.stop 65535) := Lib.hid ⟨hf.kept, hf.there, hf.waits, hf.both⟩
    cases t with
    | true =>
      have ha : s.armed = 1 := by simpa using ht.symm
      have E : Hid (s.syncErr = 14 ∧ s.sync = s.stop) := Lib.hid (by unfold St.syncErr St.sync St.err; rw [hdn, ha]; exact ⟨rfl, rfl⟩)
      clear hv0 hf hdn ht ha
      go_enter Try.func20, Try.ntmps20
      go_wp2_with fail
      refine S1.out.mono ?_; rintro e w1 ⟨rfl, ht⟩
      have HT := Lib.hid ht
      clear ht S1
      go_wp2_with fail
      go_ret
      exact ⟨ret_int E.out.1.symm, by rw [E.out.2]; exact HT.out⟩
    | false =>
      have ha : s.armed ≠ 1 := by simpa using ht.symm
      have E : Hid (s.syncErr = 0 ∧ s.sync = { s.stop with kept := s.there, waits := [] }) := Lib.hid (by unfold St.syncErr St.sync St.err; rw [hdn]; simp [ha])
      clear hv0 hf hdn ht ha
      go_enter Try.func20, Try.ntmps20
      go_wp2_with fail
      refine S1.out.mono ?_; rintro e w1 ⟨rfl, ht⟩
      obtain ⟨F1, ⟨kv1, h1⟩, hk1, hF1⟩ := ht
      have T := Lib.hid (there_at h1 FT.out)
      have K1 := Lib.hid (And.intro hk1 hF1)
      have O := Lib.hid h1
      clear h1 hk1 hF1 S1
      go_wp2_with fail
      refine T.out.mono ?_; rintro e w2 ⟨v, rfl, hr⟩
      obtain ⟨wv1, ho, g1, hw1⟩ := O.out
      have hkp := ho.kept hr.2.1 (fun _ _ h => h)
      have d0 := hkp.cell (i := 0) rfl
      have d1 := hkp.cell (i := 1) rfl
      have f0 := hkp.frozen 0
      have f1 := hkp.frozen 1
      have P : Hid (Turns w1 F1 ((w2.setCell ⟨p, 0, none⟩ v).setCell ⟨p, 1, none⟩ (.slice none 0 0)) (RDk p { s.stop with kept := s.there, waits := [] })) := Lib.hid (by
        refine (ho.turn (i := 0) (c' := Part.row 67 2 v s.there.length (s.there.flatMap fc)) (v' := v) rfl (hr.2.1.mono (fun _ _ h => h.elim)) hr.1 (fres_loc hr)).trans fun F2 h2 => ?_
        refine (h2.turn (i := 1) (c' := Part.row 65 3 (.slice none 0 0) 0 []) (v' := .slice none 0 0) (w1 := _) rfl (Keeps.refl _ _) (World.ownsRow_nil _ _ _ _) (.inl rfl)).imp fun G h3 => ⟨v, .slice none 0 0, h3, ?_, rfl⟩
        exact ⟨g1.rt, g1.rt, g1.st, g1.st, (fun y hy => by cases hy), g1.room, g1.armed⟩)
      obtain ⟨va, vc, hv⟩ := frow_shape hr.1
      subst hv
      clear T hr ho g1 hw1 hkp
      go_wp2_with fail
      go_ret
      exact ⟨ret_int E.out.1.symm, by rw [E.out.2]; exact Turns.chain K1.out.1 K1.out.2 P.out⟩
end Go.Proofs.Ytnijencmoceiaaa
