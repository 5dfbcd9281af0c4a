/-
  No statement is proved here: 'Rows' on two rows of the call's own; 'told' beside other objects; two objects of which one acts.
-/
import Derived.Test.YtnijencmoceiaaaTold
namespace Go.Proofs.Ytnijencmoceiaaa
set_option linter.unusedVariables false
open Go.RowKit Go.Maps

set_option maxRecDepth 100000 in
set_option maxHeartbeats 1000000 in
theorem rows_walk (a1 a2 : Option Addr) (n c1 c2 : Nat) (l : List Str) (hl : l.length = n) (w : World) (h1 : w.ownsRow 0 9 1 (.slice a1 n c1) n (l.map str)) (h2 : w.ownsRow 0 9 1 (.slice a2 n c2) n (l.map str)) :
    Calls Try.prog 27 #[.slice a1 n c1, .slice a2 n c2] w fun e w' => e = .returned (.bool true) ∧ Keeps (fun _ => False) w w' := by
  obtain ⟨_, _, e1, hb1, hb2⟩ := row_shape h1
  simp only [Value.slice.injEq] at e1
  have hn : n ≤ 9223372036854775807 := by unfold maxLen at hb2; omega
  have H1 := Lib.hid h1
  have H2 := Lib.hid h2
  have HL := Lib.hid hl
  clear h1 h2 e1 hb1 hb2 hl
  go_enter Try.func27, Try.ntmps27
  go_wp2_with fail
  go_loopw [5] (fun i wr => ∃ k : Nat, k ≤ n ∧ i = .int .i64 k ∧ Keeps (fun _ => False) w wr) (fun i _ => n - (intOf i).toNat)
  case atStart => exact ⟨0, Nat.zero_le _, rfl, Keeps.refl _ _⟩
  case round =>
    obtain ⟨k, hk, rfl, hkp⟩ := hrel
    have HK := Lib.hid hkp
    clear hkp
    by_cases hlt : k < n
    · obtain ⟨x, hx⟩ : ∃ x : ByteArray, (l.map str)[k]? = some (.string x) := by
        have hkl : k < l.length := by rw [HL.out]; exact hlt
        exact ⟨⟨(l[k]).toArray⟩, by simp [hkl, str]⟩
      obtain ⟨g1, d1, e1, hc1⟩ := row_at (row_keeps H1.out HK.out (fun _ _ h => h)) hlt
      obtain ⟨g2, d2, e2, hc2⟩ := row_at (row_keeps H2.out HK.out (fun _ _ h => h)) hlt
      obtain ⟨rfl, -, rfl⟩ := by simpa only [Value.slice.injEq] using e1
      obtain ⟨rfl, -, rfl⟩ := by simpa only [Value.slice.injEq] using e2
      rw [hx] at hc1 hc2
      have hbq : (x.toList == x.toList) = true := beq_self_eq_true _
      have D1 : Hid (∀ nq, Keeps (fun _ => False) w (wr.drewN nq)) := Lib.hid (fun nq => HK.out.trans (Keeps.drewN (fun _ => False) wr nq) (fun _ _ h => h))
      clear e1 e2 hx
      go_wp2_with fail
      go_quiet (fail)
      go_wp2_with fail
      go_roundw
      case rel => exact ⟨k + 1, by omega, by go_num, D1.out _⟩
      case measure => simp [intOf]; omega
    · go_wp2_with fail
      go_ret
      exact ⟨rfl, HK.out⟩

section
variable {B : Nat} {w0 w : World} {Os : List Says} {i j : Nat}
theorem OwnL.get (h : OwnL B w0 w Os) {O : Says} (hi : Os[i]? = some O) {O2 : Says} (hj : Os[j]? = some O2) (hij : i ≠ j) : ∃ F G, O w F ∧ O2 w G ∧ ∀ b, F b → ¬ G b := by
  obtain ⟨Fs, h1, _, h3⟩ := h.its
  exact ⟨Fs i, Fs j, h1 i O hi, h1 j O2 hj, fun b => h3 i j b (List.getElem?_eq_some_iff.1 hi).1 (List.getElem?_eq_some_iff.1 hj).1 hij⟩
/-- One acts, while another is read. -/
theorem OwnL.acts2 {P : Program} {f : FuncId} {args : Array Value} {R : Ending → Prop} {O O2 O' : Says} (h : OwnL B w0 w Os) (hi : Os[i]? = some O) (hj : Os[j]? = some O2) (hij : i ≠ j) (fr : Framed O')
    (hc : ∀ F G, O w F → O2 w G → (∀ b, F b → ¬ G b) → Calls P f args w fun e w' => R e ∧ Turns w F w' O') : Calls P f args w fun e w' => R e ∧ OwnL B w0 w' (Os.set i O') := by
  obtain ⟨Fs, h1, h2, h3⟩ := h.its
  have hil : i < Os.length := (List.getElem?_eq_some_iff.1 hi).1
  have hjl : j < Os.length := (List.getElem?_eq_some_iff.1 hj).1
  refine (hc (Fs i) (Fs j) (h1 i O hi) (h1 j O2 hj) (fun b => h3 i j b hil hjl hij)).mono ?_
  rintro e w' ⟨hr, ht⟩
  exact ⟨hr, h.turnAt h1 h2 h3 hi fr ht⟩
theorem rows_own {a1 a2 : Option Addr} {n c1 c2 : Nat} {l : List Str} (h : OwnL B w0 w Os) (hi : Os[i]? = some (RowOf 9 1 (.slice a1 n c1) n (l.map str))) (hj : Os[j]? = some (RowOf 9 1 (.slice a2 n c2) n (l.map str))) (hl : l.length = n) :
    Calls Try.prog 27 #[.slice a1 n c1, .slice a2 n c2] w fun e w' => e = .returned (.bool true) ∧ OwnL B w0 w' Os := by
  obtain ⟨F, h1, -⟩ := h.it hi
  obtain ⟨G, h2, -⟩ := h.it hj
  refine (rows_walk a1 a2 n c1 c2 l hl w h1 h2).mono ?_
  rintro e w' ⟨he, hk⟩
  exact ⟨he, h.more hk⟩
theorem told_add {p R : Nat} {s : St} (h : OwnL B w0 w Os) (hi : Os[i]? = some (Dk p s)) (hu : Up R s) (hf : Fits s 65535) :
    Calls Try.prog 33 #[.pointer (some ⟨p, 0, none⟩)] w fun e w' => ∃ a c, e = .returned (.slice a (flat s.there).length c) ∧ OwnL B w0 w' (Os ++ [RowOf 9 1 (.slice a (flat s.there).length c) (flat s.there).length ((flat s.there).map str)]) := by
  refine (told_up (h.it hi) hu hf).mono ?_
  rintro e w' ⟨v, he, hf⟩
  obtain ⟨a, c, rfl, -⟩ := row_shape hf.1
  exact ⟨a, c, he, h.add hf.2.1 (F' := fun b => (Value.slice a _ c).ownBlock = some b) ⟨hf.1, fun _ => Iff.rfl⟩ (RowOf.framed _ _ _ _ _) hf.2.2⟩
end
end Go.Proofs.Ytnijencmoceiaaa
