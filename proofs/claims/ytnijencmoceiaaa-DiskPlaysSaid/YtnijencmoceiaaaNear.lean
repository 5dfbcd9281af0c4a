/-
  No statement is proved here: a region that draws its order and whose calls only make memory: ONE walk of its text serves every order, in the class of the worlds that keep what was there ('near').
-/
import Derived.Test.YtnijencmoceiaaaSep
import Derived.BigQuiet
import Derived.StillTailTactics
namespace Go.Proofs.Ytnijencmoceiaaa
open Go.RowKit

open Classical in
/-- u, if it keeps all that was in W; else W. -/
noncomputable def near (W u : World) : World := if Keeps (fun _ => False) W u then u else W

theorem near_keeps (W u : World) : Keeps (fun _ => False) W (near W u) := by
  unfold near; split
  · assumption
  · exact Keeps.refl _ _
theorem near_of {W u : World} (h : Keeps (fun _ => False) W u) : near W u = u := by unfold near; rw [if_pos h]
theorem near_call {P : Program} {f : FuncId} {args : Array Value} {W : World} {v : Value} (h : ∀ w, Calls P f args w fun e w' => e = .returned v ∧ Keeps (fun _ => False) w w') (u : World) :
    Calls P f args (near W u) fun e w'' => e = .returned v ∧ ∃ u', w'' = near W u' :=
  (h _).mono fun _ _ h => ⟨h.1, _, (near_of ((near_keeps W u).trans h.2 (fun _ _ hf => hf))).symm⟩
theorem near_same {P : Program} {f : FuncId} {args : Array Value} {W : World} {v : Value} (h : ∀ w, Calls P f args w fun e w' => e = .returned v ∧ w = w') (u : World) :
    Calls P f args (near W u) fun e w'' => e = .returned v ∧ ∃ u', w'' = near W u' :=
  (h _).mono fun _ _ h => ⟨h.1, u, h.2.symm⟩
theorem near_block {W : World} {b : Nat} {o : Obj} (h : W.heap[b]? = some o) (u : World) : (near W u).heap[b]? = some o :=
  ((near_keeps W u).block b (Array.getElem?_eq_some_iff.1 h).1 (fun h => h)).trans h
theorem near_cell {W : World} {A : Addr} {v : Value} (h : W.cell? A = some v) (u : World) : (near W u).cell? A = some v := by
  cases hb : W.heap[A.block]? with
  | none => simp [World.cell?, hb] at h
  | some o =>
    have hb' := near_block hb u
    simp only [World.cell?, hb, hb'] at h ⊢
    exact h

theorem region_near {P : Program} {id : Nat} {Q : Exit → Act → World → Prop} {a : Act} {w : World} {l : List Oper} (hm : P.follows .mixedOrders = true) (hB : Region.lexB .any l.toArray = true)
    (h : wpQuiet P l.toArray (fun w' => ∃ u, w' = near w u) (fun a' => ∀ w', (∃ u, w' = near w u) → Q .normal a' w') l a) : (Code.region id l.toArray true).wp P Q a w :=
  wp_region_quiet (C := fun w' => ∃ u, w' = near w u) hm hB ⟨w.drewN 1, (near_of (Keeps.drewN _ _ _)).symm⟩ (by simpa using h)

end Go.Proofs.Ytnijencmoceiaaa
