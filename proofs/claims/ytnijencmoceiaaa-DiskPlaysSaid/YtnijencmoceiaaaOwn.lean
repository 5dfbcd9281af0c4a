/-
  No statement is proved here: any number of objects of the call's own, in blocks apart ('OwnL'): what a call that acts on one of them, or makes one, leaves.
-/
import Derived.Test.YtnijencmoceiaaaArgs
namespace Go.Proofs.Ytnijencmoceiaaa
set_option linter.unusedVariables false
open Go.RowKit Go.Maps

/-- What is said of a world and of the blocks that an object lies in. -/
abbrev Says := World → (Nat → Prop) → Prop

/-- Objects of the call's own: their blocks lie from B on, apart. -/
structure OwnL (B : Nat) (w0 w : World) (Os : List Says) : Prop where
  below : Below B w0 w
  size : B ≤ w.heap.size
  framed : ∀ O ∈ Os, Framed O
  its : ∃ Fs : Nat → Nat → Prop, (∀ (i : Nat) (O : Says), Os[i]? = some O → O w (Fs i)) ∧ (∀ i b, i < Os.length → Fs i b → B ≤ b) ∧ (∀ i j b, i < Os.length → j < Os.length → i ≠ j → Fs i b → ¬ Fs j b)

/-- A call that acts on one object that lies from B on. -/
def ActsFrom (B : Nat) (P : Program) (f : FuncId) (args : Array Value) (w : World) (O : Says) (R : Ending → Prop) (O' : Says) : Prop :=
  ∀ F, O w F → (∀ b, F b → B ≤ b) → Calls P f args w fun e w' => R e ∧ Turns w F w' O'
theorem Acts.from {B : Nat} {P : Program} {f : FuncId} {args : Array Value} {w : World} {O O' : Says} {R : Ending → Prop} (h : Acts P f args w O R O') : ActsFrom B P f args w O R O' := fun F hF _ => h F hF

section
variable {B : Nat} {w0 w w' : World} {Os : List Says} {O O' : Says} {i : Nat}
theorem OwnL.start (hw : Below B w0 w) (hB : B ≤ w.heap.size) : OwnL B w0 w [] :=
  ⟨hw, hB, (fun _ h => by cases h), fun _ _ => False, (fun i O h => by simp at h), (fun i b h => by simp at h), (fun i j b h => by simp at h)⟩
theorem OwnL.it (h : OwnL B w0 w Os) (hi : Os[i]? = some O) : ∃ F, O w F := let ⟨Fs, h1, _⟩ := h.its; ⟨Fs i, h1 i O hi⟩
theorem OwnL.more (h : OwnL B w0 w Os) (hk : Keeps (fun _ => False) w w') : OwnL B w0 w' Os := by
  obtain ⟨Fs, h1, h2, h3⟩ := h.its
  exact ⟨h.below.trans (hk.below h.size (fun _ h => h.elim)), Nat.le_trans h.size hk.size, h.framed, Fs, fun i O hi => (h.framed O (List.mem_of_getElem? hi)).kept _ _ _ _ (h1 i O hi) hk (fun _ _ h => h), h2, h3⟩
theorem OwnL.turnAt (h : OwnL B w0 w Os) {Fs : Nat → Nat → Prop} (h1 : ∀ (i : Nat) (O : Says), Os[i]? = some O → O w (Fs i)) (h2 : ∀ i b, i < Os.length → Fs i b → B ≤ b) (h3 : ∀ i j b, i < Os.length → j < Os.length → i ≠ j → Fs i b → ¬ Fs j b)
    (hi : Os[i]? = some O) (fr : Framed O') (ht : Turns w (Fs i) w' O') : OwnL B w0 w' (Os.set i O') := by
  have hil : i < Os.length := (List.getElem?_eq_some_iff.1 hi).1
  obtain ⟨F', ho, hk, hF⟩ := ht
  have hlt : ∀ (j : Nat) (Oj : Says), Os[j]? = some Oj → ∀ b, Fs j b → b < w.heap.size := fun j Oj hj b hb => (h.framed Oj (List.mem_of_getElem? hj)).lt _ _ (h1 j Oj hj) b hb
  refine ⟨h.below.trans (hk.below h.size (fun b hb => h2 i b hil hb)), Nat.le_trans h.size hk.size, fun x hx => ?_, fun j => if j = i then F' else Fs j, fun j Oj hj => ?_, fun j b hj hb => ?_, fun j k b hj hk' hjk hb hb' => ?_⟩
  · rcases List.mem_or_eq_of_mem_set hx with hx | rfl
    · exact h.framed x hx
    · exact fr
  · by_cases e : j = i
    · subst e
      rw [List.getElem?_set_self hil] at hj
      cases hj
      simpa using ho
    · rw [List.getElem?_set_ne (fun x => e x.symm)] at hj
      simp only [e, if_false]
      exact (h.framed Oj (List.mem_of_getElem? hj)).kept _ _ _ _ (h1 j Oj hj) hk (fun b hb hb' => h3 j i b (List.getElem?_eq_some_iff.1 hj).1 hil e hb hb')
  · simp at hj
    by_cases e : j = i
    · subst e
      simp only [if_true] at hb
      rcases hF b hb with hb | hb
      · exact h2 j b hil hb
      · exact Nat.le_trans h.size hb
    · simp only [e, if_false] at hb
      exact h2 j b hj hb
  · simp at hj hk'
    have key : ∀ (x y : Nat), x < Os.length → y < Os.length → x ≠ y → x = i → (if x = i then F' else Fs x) b → (if y = i then F' else Fs y) b → False := by
      intro x y hx hy hxy e hbx hby
      have ey : y ≠ i := fun e' => hxy (e.trans e'.symm)
      simp only [e, if_true] at hbx
      simp only [ey, if_false] at hby
      rcases hF b hbx with hb2 | hb2
      · exact h3 i y b hil hy (fun x => ey x.symm) hb2 hby
      · have := hlt y _ (List.getElem?_eq_getElem hy) b hby
        omega
    by_cases e : j = i
    · exact key j k hj hk' hjk e hb hb'
    · by_cases e' : k = i
      · exact key k j hk' hj (fun x => hjk x.symm) e' hb' hb
      · simp only [e, if_false] at hb
        simp only [e', if_false] at hb'
        exact h3 j k b hj hk' hjk hb hb'
theorem OwnL.turns (h : OwnL B w0 w Os) (hi : Os[i]? = some O) (fr : Framed O') (ht : ∀ F, O w F → (∀ b, F b → B ≤ b) → Turns w F w' O') : OwnL B w0 w' (Os.set i O') := by
  obtain ⟨Fs, h1, h2, h3⟩ := h.its
  have hil : i < Os.length := (List.getElem?_eq_some_iff.1 hi).1
  exact h.turnAt h1 h2 h3 hi fr (ht (Fs i) (h1 i O hi) (fun b hb => h2 i b hil hb))
theorem OwnL.acts {P : Program} {f : FuncId} {args : Array Value} {R : Ending → Prop} (h : OwnL B w0 w Os) (hi : Os[i]? = some O) (fr : Framed O') (hc : ActsFrom B P f args w O R O') : Calls P f args w fun e w' => R e ∧ OwnL B w0 w' (Os.set i O') := by
  obtain ⟨Fs, h1, h2, h3⟩ := h.its
  have hil : i < Os.length := (List.getElem?_eq_some_iff.1 hi).1
  refine (hc (Fs i) (h1 i O hi) (fun b hb => h2 i b hil hb)).mono ?_
  rintro e w' ⟨hr, ht⟩
  exact ⟨hr, h.turnAt h1 h2 h3 hi fr ht⟩
theorem OwnL.add (h : OwnL B w0 w Os) (hk : Keeps (fun _ => False) w w') {F' : Nat → Prop} (ho : O' w' F') (fr : Framed O') (hF : ∀ b, F' b → w.heap.size ≤ b) : OwnL B w0 w' (Os ++ [O']) := by
  obtain ⟨Fs, h1, h2, h3⟩ := h.its
  have hlt : ∀ (j : Nat) (Oj : Says), Os[j]? = some Oj → ∀ b, Fs j b → b < w.heap.size := fun j Oj hj b hb => (h.framed Oj (List.mem_of_getElem? hj)).lt _ _ (h1 j Oj hj) b hb
  refine ⟨h.below.trans (hk.below h.size (fun _ h => h.elim)), Nat.le_trans h.size hk.size, fun x hx => ?_, fun j => if j = Os.length then F' else Fs j, fun j Oj hj => ?_, fun j b hj hb => ?_, fun j k b hj hk' hjk hb hb' => ?_⟩
  · rcases List.mem_append.1 hx with hx | hx
    · exact h.framed x hx
    · simp at hx; subst hx; exact fr
  · by_cases e : j = Os.length
    · subst e
      simp at hj; subst hj
      simpa using ho
    · have hjl : j < Os.length := by
        have := (List.getElem?_eq_some_iff.1 hj).1
        simp at this; omega
      rw [List.getElem?_append_left hjl] at hj
      simp only [e, if_false]
      exact (h.framed Oj (List.mem_of_getElem? hj)).kept _ _ _ _ (h1 j Oj hj) hk (fun _ _ h => h)
  · simp at hj
    by_cases e : j = Os.length
    · simp only [e, if_true] at hb
      exact Nat.le_trans h.size (hF b hb)
    · simp only [e, if_false] at hb
      exact h2 j b (by omega) hb
  · simp at hj hk'
    by_cases e : j = Os.length
    · by_cases e' : k = Os.length
      · omega
      · simp only [e, if_true] at hb
        simp only [e', if_false] at hb'
        have hkl : k < Os.length := by omega
        have := hlt k _ (List.getElem?_eq_getElem hkl) b hb'
        have := hF b hb
        omega
    · by_cases e' : k = Os.length
      · simp only [e', if_true] at hb'
        simp only [e, if_false] at hb
        have hkl : j < Os.length := by omega
        have := hlt j _ (List.getElem?_eq_getElem hkl) b hb
        have := hF b hb'
        omega
      · simp only [e, if_false] at hb
        simp only [e', if_false] at hb'
        exact h3 j k b (by omega) (by omega) hjk hb hb'
end
end Go.Proofs.Ytnijencmoceiaaa
