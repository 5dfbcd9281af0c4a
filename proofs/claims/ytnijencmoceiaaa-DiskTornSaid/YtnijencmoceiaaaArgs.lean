/-
  No statement is proved here: what a walk knows of the program as a whole; a slice of steps that came in, as a walk reads it; 'few'.
-/
import Derived.Test.YtnijencmoceiaaaSmall
import Derived.ProofKit
import Derived.OpenShut
import Derived.Deep.SlicePairs
import Derived.SizedLaws
namespace Go.Proofs.Ytnijencmoceiaaa
open Go.RowKit Go.Maps

theorem own : ownKnob Try.prog.godebug = none := by kernel_rfl
theorem laidOut : laidOutB Try.prog = true := by kernel_rfl
end Go.Proofs.Ytnijencmoceiaaa
