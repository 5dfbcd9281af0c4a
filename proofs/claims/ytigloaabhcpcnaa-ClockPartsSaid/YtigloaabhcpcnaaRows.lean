/-
  No cell of these rows narrows 'for every input' (looked for: loops, veiled, ifaces, maps, wideKeys, modest, calm, conditions, laid).
  DERIVED. THE GIVEN ROWS OF THIS SEAT. 7 by the template 'for every input the law returns true; each argument reads behind the call as it read before'; 0 by the template 'total and deterministic' (their statements: YtigloaabhcpcnaaTotals.lean).
  GIVEN WITH THE SEED: the statements are not yours to turn. If you find one false, say at which input.
  Laid BY PROGRAM, IN A SANDBOX (cutbox-rows.mjs): the forced cells as the released guide's own fill.sh prints them over the translation 7460e4cbcfc7b7ef… (all of the seat's roots in one cut). By AI agents, Wed Nov 11 2026. No macro, syntax, notation, axiom, sorry.
-/
import Derived.Test.YtigloaabhcpcnaaChecked
import GoSem.Claim
import GoSem.ClaimJoined
import GoSem.ClaimMapViews
import Derived.JoinedTies
import Derived.KernelRfl
namespace Go.Proofs.Ytigloaabhcpcnaa
/- THE CELL 'sum', in the pinned program and in every row, IS THE sha256 OF THE DUMP (.gsa) THAT YtigloaabhcpcnaaProg.lean LOADS. Nothing in Lean hashes anything: it is a label: what it is worth is what the hold of that sum in a sandbox is worth. -/
noncomputable def Try.pinned : Pinned := { name := "ytigloaabhcpcnaa", sum := "7460e4cbcfc7b7ef6184f3e9ec19415a30a956b48dcadf6824501be58478d077", checked := Try.checked }
namespace Rows
def none {H : Type} : Left H := { results := [], args := [] }

/-- 'carpetbaglaw02.ClockTells': WHATEVER THE INPUT: true; the input reads as it did. -/
def clockTellsSpec : ChangeSpec := { name := "clockTells", fn := fun _ => fun
  | [d1, d2, d3] => { results := [.lit (.bool true)], args := [d1, d2, d3] }
  | _ => none }
def clockTellsRow : OpenClaim := { program := "ytigloaabhcpcnaa", sum := "7460e4cbcfc7b7ef6184f3e9ec19415a30a956b48dcadf6824501be58478d077", func := "carpetbag/carpetbaglaw02.ClockTells", spec := "clockTells", apart := false }
def ClockTellsSaid : Prop := clockTellsRow.holds Try.pinned (OpenSpec.ofChange clockTellsSpec)

/-- ITS FALSE NEIGHBOUR: 'it returns false'. Refute it at one input. -/
def clockTellsWrong : ChangeSpec := { name := "clockTells", fn := fun _ => fun
  | [d1, d2, d3] => { results := [.lit (.bool false)], args := [d1, d2, d3] }
  | _ => none }
def ClockTellsWrongFalsely : Prop := clockTellsRow.holds Try.pinned (OpenSpec.ofChange clockTellsWrong)

/-- 'carpetbaglaw02.ClockParts': WHATEVER THE INPUT: true; the input reads as it did. -/
def clockPartsSpec : ChangeSpec := { name := "clockParts", fn := fun _ => fun
  | [d1, d2, d3] => { results := [.lit (.bool true)], args := [d1, d2, d3] }
  | _ => none }
def clockPartsRow : OpenClaim := { program := "ytigloaabhcpcnaa", sum := "7460e4cbcfc7b7ef6184f3e9ec19415a30a956b48dcadf6824501be58478d077", func := "carpetbag/carpetbaglaw02.ClockParts", spec := "clockParts", apart := false }
def ClockPartsSaid : Prop := clockPartsRow.holds Try.pinned (OpenSpec.ofChange clockPartsSpec)

/-- ITS FALSE NEIGHBOUR: 'it returns false'. Refute it at one input. -/
def clockPartsWrong : ChangeSpec := { name := "clockParts", fn := fun _ => fun
  | [d1, d2, d3] => { results := [.lit (.bool false)], args := [d1, d2, d3] }
  | _ => none }
def ClockPartsWrongFalsely : Prop := clockPartsRow.holds Try.pinned (OpenSpec.ofChange clockPartsWrong)

/-- 'carpetbaglaw02.ClockOrders': WHATEVER THE INPUT: true; the input reads as it did. -/
def clockOrdersSpec : ChangeSpec := { name := "clockOrders", fn := fun _ => fun
  | [d1, d2, d3] => { results := [.lit (.bool true)], args := [d1, d2, d3] }
  | _ => none }
def clockOrdersRow : OpenClaim := { program := "ytigloaabhcpcnaa", sum := "7460e4cbcfc7b7ef6184f3e9ec19415a30a956b48dcadf6824501be58478d077", func := "carpetbag/carpetbaglaw02.ClockOrders", spec := "clockOrders", apart := false }
def ClockOrdersSaid : Prop := clockOrdersRow.holds Try.pinned (OpenSpec.ofChange clockOrdersSpec)

/-- ITS FALSE NEIGHBOUR: 'it returns false'. Refute it at one input. -/
def clockOrdersWrong : ChangeSpec := { name := "clockOrders", fn := fun _ => fun
  | [d1, d2, d3] => { results := [.lit (.bool false)], args := [d1, d2, d3] }
  | _ => none }
def ClockOrdersWrongFalsely : Prop := clockOrdersRow.holds Try.pinned (OpenSpec.ofChange clockOrdersWrong)

/-- 'carpetbaglaw02.ClockTicks': WHATEVER THE INPUT: true; the input reads as it did. -/
def clockTicksSpec : ChangeSpec := { name := "clockTicks", fn := fun _ => fun
  | [d1, d2, d3] => { results := [.lit (.bool true)], args := [d1, d2, d3] }
  | _ => none }
def clockTicksRow : OpenClaim := { program := "ytigloaabhcpcnaa", sum := "7460e4cbcfc7b7ef6184f3e9ec19415a30a956b48dcadf6824501be58478d077", func := "carpetbag/carpetbaglaw02.ClockTicks", spec := "clockTicks", apart := false }
def ClockTicksSaid : Prop := clockTicksRow.holds Try.pinned (OpenSpec.ofChange clockTicksSpec)

/-- ITS FALSE NEIGHBOUR: 'it returns false'. Refute it at one input. -/
def clockTicksWrong : ChangeSpec := { name := "clockTicks", fn := fun _ => fun
  | [d1, d2, d3] => { results := [.lit (.bool false)], args := [d1, d2, d3] }
  | _ => none }
def ClockTicksWrongFalsely : Prop := clockTicksRow.holds Try.pinned (OpenSpec.ofChange clockTicksWrong)

/-- 'carpetbaglaw02.ClockCounts': WHATEVER THE INPUT: true; the input reads as it did. -/
def clockCountsSpec : ChangeSpec := { name := "clockCounts", fn := fun _ => fun
  | [d] => { results := [.lit (.bool true)], args := [d] }
  | _ => none }
def clockCountsRow : OpenClaim := { program := "ytigloaabhcpcnaa", sum := "7460e4cbcfc7b7ef6184f3e9ec19415a30a956b48dcadf6824501be58478d077", func := "carpetbag/carpetbaglaw02.ClockCounts", spec := "clockCounts", apart := false }
def ClockCountsSaid : Prop := clockCountsRow.holds Try.pinned (OpenSpec.ofChange clockCountsSpec)

/-- ITS FALSE NEIGHBOUR: 'it returns false'. Refute it at one input. -/
def clockCountsWrong : ChangeSpec := { name := "clockCounts", fn := fun _ => fun
  | [d] => { results := [.lit (.bool false)], args := [d] }
  | _ => none }
def ClockCountsWrongFalsely : Prop := clockCountsRow.holds Try.pinned (OpenSpec.ofChange clockCountsWrong)

/-- 'carpetbaglaw02.ClockTurned': WHATEVER THE INPUT: true; the input reads as it did. -/
def clockTurnedSpec : ChangeSpec := { name := "clockTurned", fn := fun _ => fun
  | [d1, d2] => { results := [.lit (.bool true)], args := [d1, d2] }
  | _ => none }
def clockTurnedRow : OpenClaim := { program := "ytigloaabhcpcnaa", sum := "7460e4cbcfc7b7ef6184f3e9ec19415a30a956b48dcadf6824501be58478d077", func := "carpetbag/carpetbaglaw02.ClockTurned", spec := "clockTurned", apart := false }
def ClockTurnedSaid : Prop := clockTurnedRow.holds Try.pinned (OpenSpec.ofChange clockTurnedSpec)

/-- ITS FALSE NEIGHBOUR: 'it returns false'. Refute it at one input. -/
def clockTurnedWrong : ChangeSpec := { name := "clockTurned", fn := fun _ => fun
  | [d1, d2] => { results := [.lit (.bool false)], args := [d1, d2] }
  | _ => none }
def ClockTurnedWrongFalsely : Prop := clockTurnedRow.holds Try.pinned (OpenSpec.ofChange clockTurnedWrong)

/-- 'carpetbaglaw02.ClockJoins': WHATEVER THE INPUT: true; the input reads as it did. -/
def clockJoinsSpec : ChangeSpec := { name := "clockJoins", fn := fun _ => fun
  | [d] => { results := [.lit (.bool true)], args := [d] }
  | _ => none }
def clockJoinsRow : OpenClaim := { program := "ytigloaabhcpcnaa", sum := "7460e4cbcfc7b7ef6184f3e9ec19415a30a956b48dcadf6824501be58478d077", func := "carpetbag/carpetbaglaw02.ClockJoins", spec := "clockJoins", apart := false }
def ClockJoinsSaid : Prop := clockJoinsRow.holds Try.pinned (OpenSpec.ofChange clockJoinsSpec)

/-- ITS FALSE NEIGHBOUR: 'it returns false'. Refute it at one input. -/
def clockJoinsWrong : ChangeSpec := { name := "clockJoins", fn := fun _ => fun
  | [d] => { results := [.lit (.bool false)], args := [d] }
  | _ => none }
def ClockJoinsWrongFalsely : Prop := clockJoinsRow.holds Try.pinned (OpenSpec.ofChange clockJoinsWrong)

/- THE SECOND FORM. 'bulk': how many values and letters a reading holds, each counted each time it is reached (what is shared counts as often as it is met; a slice's spare places count too). A statement '..UptoSaid' is the law's where the arguments, and the package variables that the reading takes, are together of bulk at most 1048576: NARROWER than '..Said'. Prove '..Said' where nothing that the law and all that it calls make is longer than what came in: it says more and counts as full. Else prove '..UptoSaid'. A law counts once. -/
mutual
def uptoBulk {H : Type} : DataW H → Nat
  | .lit (.string bytes) => bytes.length + 1
  | .lit _ => 1
  | .nil => 1
  | .ptr d => uptoBulk d + 1
  | .slice elems spare => uptoBulkAll elems + uptoBulkAll spare + 1
  | .agg parts => uptoBulkAll parts + 1
  | .iface _ d => uptoBulk d + 1
  | .map entries => uptoBulkEntries entries + 1
  | .held _ => 1
def uptoBulkAll {H : Type} : List (DataW H) → Nat
  | [] => 0
  | d :: r => uptoBulk d + uptoBulkAll r
def uptoBulkEntries {H : Type} : List (Lit × DataW H) → Nat
  | [] => 0
  | x :: r => uptoBulkEntry x + uptoBulkEntries r
def uptoBulkEntry {H : Type} : Lit × DataW H → Nat
  | (.string bytes, d) => bytes.length + uptoBulk d + 1
  | (_, d) => uptoBulk d + 1
 end
def uptoSmall : (H : Type) → List (DataW H) → Bool := fun _ ds => decide (uptoBulkAll ds ≤ 1048576)
def OpenSpec.upto (s : _root_.Go.ChangeSpec) : _root_.Go.OpenSpec := { _root_.Go.OpenSpec.ofChange s with cond := some uptoSmall }

/-- 'carpetbaglaw02.ClockTells', WHERE WHAT IT READS IS OF BULK AT MOST 1048576: true; the input reads as it did. -/
def clockTellsUptoRow : OpenClaim := { program := "ytigloaabhcpcnaa", sum := "7460e4cbcfc7b7ef6184f3e9ec19415a30a956b48dcadf6824501be58478d077", func := "carpetbag/carpetbaglaw02.ClockTells", spec := "clockTells", apart := false, narrowed := true }
def ClockTellsUptoSaid : Prop := clockTellsUptoRow.holds Try.pinned (OpenSpec.upto clockTellsSpec)

/-- 'carpetbaglaw02.ClockParts', WHERE WHAT IT READS IS OF BULK AT MOST 1048576: true; the input reads as it did. -/
def clockPartsUptoRow : OpenClaim := { program := "ytigloaabhcpcnaa", sum := "7460e4cbcfc7b7ef6184f3e9ec19415a30a956b48dcadf6824501be58478d077", func := "carpetbag/carpetbaglaw02.ClockParts", spec := "clockParts", apart := false, narrowed := true }
def ClockPartsUptoSaid : Prop := clockPartsUptoRow.holds Try.pinned (OpenSpec.upto clockPartsSpec)

/-- 'carpetbaglaw02.ClockOrders', WHERE WHAT IT READS IS OF BULK AT MOST 1048576: true; the input reads as it did. -/
def clockOrdersUptoRow : OpenClaim := { program := "ytigloaabhcpcnaa", sum := "7460e4cbcfc7b7ef6184f3e9ec19415a30a956b48dcadf6824501be58478d077", func := "carpetbag/carpetbaglaw02.ClockOrders", spec := "clockOrders", apart := false, narrowed := true }
def ClockOrdersUptoSaid : Prop := clockOrdersUptoRow.holds Try.pinned (OpenSpec.upto clockOrdersSpec)

/-- 'carpetbaglaw02.ClockTicks', WHERE WHAT IT READS IS OF BULK AT MOST 1048576: true; the input reads as it did. -/
def clockTicksUptoRow : OpenClaim := { program := "ytigloaabhcpcnaa", sum := "7460e4cbcfc7b7ef6184f3e9ec19415a30a956b48dcadf6824501be58478d077", func := "carpetbag/carpetbaglaw02.ClockTicks", spec := "clockTicks", apart := false, narrowed := true }
def ClockTicksUptoSaid : Prop := clockTicksUptoRow.holds Try.pinned (OpenSpec.upto clockTicksSpec)

/-- 'carpetbaglaw02.ClockCounts', WHERE WHAT IT READS IS OF BULK AT MOST 1048576: true; the input reads as it did. -/
def clockCountsUptoRow : OpenClaim := { program := "ytigloaabhcpcnaa", sum := "7460e4cbcfc7b7ef6184f3e9ec19415a30a956b48dcadf6824501be58478d077", func := "carpetbag/carpetbaglaw02.ClockCounts", spec := "clockCounts", apart := false, narrowed := true }
def ClockCountsUptoSaid : Prop := clockCountsUptoRow.holds Try.pinned (OpenSpec.upto clockCountsSpec)

/-- 'carpetbaglaw02.ClockTurned', WHERE WHAT IT READS IS OF BULK AT MOST 1048576: true; the input reads as it did. -/
def clockTurnedUptoRow : OpenClaim := { program := "ytigloaabhcpcnaa", sum := "7460e4cbcfc7b7ef6184f3e9ec19415a30a956b48dcadf6824501be58478d077", func := "carpetbag/carpetbaglaw02.ClockTurned", spec := "clockTurned", apart := false, narrowed := true }
def ClockTurnedUptoSaid : Prop := clockTurnedUptoRow.holds Try.pinned (OpenSpec.upto clockTurnedSpec)

/-- 'carpetbaglaw02.ClockJoins', WHERE WHAT IT READS IS OF BULK AT MOST 1048576: true; the input reads as it did. -/
def clockJoinsUptoRow : OpenClaim := { program := "ytigloaabhcpcnaa", sum := "7460e4cbcfc7b7ef6184f3e9ec19415a30a956b48dcadf6824501be58478d077", func := "carpetbag/carpetbaglaw02.ClockJoins", spec := "clockJoins", apart := false, narrowed := true }
def ClockJoinsUptoSaid : Prop := clockJoinsUptoRow.holds Try.pinned (OpenSpec.upto clockJoinsSpec)

end Rows
end Go.Proofs.Ytigloaabhcpcnaa
