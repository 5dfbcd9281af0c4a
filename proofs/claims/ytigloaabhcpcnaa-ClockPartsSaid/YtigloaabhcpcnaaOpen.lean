/-
  No statement is proved here: how a pair that came in by value is opened and shut; the two closed facts of every row's step.
-/
import Derived.Test.YtigloaabhcpcnaaSep
import Derived.Test.YtigloaabhcpcnaaRows
import Derived.ProofKit
import Derived.OpenShut
import Derived.Lib.SmallJoins
namespace Go.Proofs.Ytigloaabhcpcnaa
open Go.ChangeShapes Go.WideShapes Go.ChangeAt Go.RowKit Go.Joins

theorem own : ownKnob Try.prog.godebug = none := by kernel_rfl
theorem laidOut : laidOutB Try.prog = true := by kernel_rfl
theorem Try.cells23 : Try.prog.cellsOf 23 = 2 := by kernel_rfl
theorem Try.cells3 : Try.prog.cellsOf 3 = 1 := by kernel_rfl

theorem pair_of {H : Type} {enc : TypeId × Value → H} {W : World} {base : Nat} {v : Value} {d : DataW H} {ps : List MemPlace} (hv : Value.okWide Try.prog W .any base 23 v) (h : DataW.Trod enc Try.prog W 0 (fun _ => true) true 23 v d ps) :
    ∃ l r : Int, v = .agg #[.int .i64 l, .int .i64 r] ∧ ((Lit.int .i64 l).wf = true ∧ (Lit.int .i64 r).wf = true) ∧ ∀ (W' : World) (b' : Nat) (sp : Nat → Bool) (held : Bool), DataW.Trod enc Try.prog W' b' sp held 23 v d ps := by
  obtain ⟨c0, c1, y0, y1, m, rfl, rfl, rfl, hy0, hy1⟩ := open_agg2 Try.underlying23 (by kernel_rfl) Try.cells23 hv h
  obtain ⟨a, e0, rfl, wa⟩ := DataW.trod_int Try.underlying3 hy0
  obtain ⟨b, e1, rfl, wb⟩ := DataW.trod_int Try.underlying3 hy1
  simp at e0 e1
  subst e0 e1
  exact ⟨a, b, rfl, ⟨wa, wb⟩, fun W' b' sp held => shut_agg2 (y0 := (.lit (.int .i64 a), [])) (y1 := (.lit (.int .i64 b), [])) Try.underlying23 (by kernel_rfl) Try.cells23 ⟨1, by simp [DataW.trod, Try.underlying3, wa]⟩ ⟨1, by simp [DataW.trod, Try.underlying3, wb]⟩⟩

end Go.Proofs.Ytigloaabhcpcnaa
