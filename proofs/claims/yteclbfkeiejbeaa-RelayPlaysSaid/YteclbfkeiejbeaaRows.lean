/-
  No cell of these rows narrows 'for every input' (looked for: loops, veiled, ifaces, maps, wideKeys, modest, calm, conditions, laid).
  DERIVED. THE GIVEN ROWS OF THIS SEAT. 5 by the template 'for every input the law returns true; each argument reads behind the call as it read before'; 0 by the template 'total and deterministic' (their statements: YteclbfkeiejbeaaTotals.lean).
  GIVEN WITH THE SEED: the statements are not yours to turn. If you find one false, say at which input.
  Laid BY PROGRAM, IN A SANDBOX (cutbox-rows.mjs): the forced cells as the released guide's own fill.sh prints them over the translation 747e333aa39ff9f4… (all of the seat's roots in one cut). By AI agents, Wed Nov 11 2026. No macro, syntax, notation, axiom, sorry.
-/
import Derived.Test.YteclbfkeiejbeaaChecked
import GoSem.Claim
import GoSem.ClaimJoined
import GoSem.ClaimMapViews
import Derived.JoinedTies
import Derived.KernelRfl
namespace Go.Proofs.Yteclbfkeiejbeaa
/- THE CELL 'sum', in the pinned program and in every row, IS THE sha256 OF THE DUMP (.gsa) THAT YteclbfkeiejbeaaProg.lean LOADS. Nothing in Lean hashes anything: it is a label: what it is worth is what the hold of that sum in a sandbox is worth. -/
noncomputable def Try.pinned : Pinned := { name := "yteclbfkeiejbeaa", sum := "747e333aa39ff9f46f817ca1d219f8732529c3a8b46a347fd3ee9091f3c723c0", checked := Try.checked }
namespace Rows
def none {H : Type} : Left H := { results := [], args := [] }

/-- 'carpetbaglaw15.RelayPlays': WHATEVER THE INPUT: true; the input reads as it did. -/
def relayPlaysSpec : ChangeSpec := { name := "relayPlays", fn := fun _ => fun
  | [d1, d2, d3] => { results := [.lit (.bool true)], args := [d1, d2, d3] }
  | _ => none }
def relayPlaysRow : OpenClaim := { program := "yteclbfkeiejbeaa", sum := "747e333aa39ff9f46f817ca1d219f8732529c3a8b46a347fd3ee9091f3c723c0", func := "carpetbag/carpetbaglaw15.RelayPlays", spec := "relayPlays", apart := false }
def RelayPlaysSaid : Prop := relayPlaysRow.holds Try.pinned (OpenSpec.ofChange relayPlaysSpec)

/-- ITS FALSE NEIGHBOUR: 'it returns false'. Refute it at one input. -/
def relayPlaysWrong : ChangeSpec := { name := "relayPlays", fn := fun _ => fun
  | [d1, d2, d3] => { results := [.lit (.bool false)], args := [d1, d2, d3] }
  | _ => none }
def RelayPlaysWrongFalsely : Prop := relayPlaysRow.holds Try.pinned (OpenSpec.ofChange relayPlaysWrong)

/-- 'carpetbaglaw15.RelayAnswers': WHATEVER THE INPUT: true; the input reads as it did. -/
def relayAnswersSpec : ChangeSpec := { name := "relayAnswers", fn := fun _ => fun
  | [d1, d2] => { results := [.lit (.bool true)], args := [d1, d2] }
  | _ => none }
def relayAnswersRow : OpenClaim := { program := "yteclbfkeiejbeaa", sum := "747e333aa39ff9f46f817ca1d219f8732529c3a8b46a347fd3ee9091f3c723c0", func := "carpetbag/carpetbaglaw15.RelayAnswers", spec := "relayAnswers", apart := false }
def RelayAnswersSaid : Prop := relayAnswersRow.holds Try.pinned (OpenSpec.ofChange relayAnswersSpec)

/-- ITS FALSE NEIGHBOUR: 'it returns false'. Refute it at one input. -/
def relayAnswersWrong : ChangeSpec := { name := "relayAnswers", fn := fun _ => fun
  | [d1, d2] => { results := [.lit (.bool false)], args := [d1, d2] }
  | _ => none }
def RelayAnswersWrongFalsely : Prop := relayAnswersRow.holds Try.pinned (OpenSpec.ofChange relayAnswersWrong)

/-- 'carpetbaglaw15.RelayFair': WHATEVER THE INPUT: true; the input reads as it did. -/
def relayFairSpec : ChangeSpec := { name := "relayFair", fn := fun _ => fun
  | [d1, d2, d3] => { results := [.lit (.bool true)], args := [d1, d2, d3] }
  | _ => none }
def relayFairRow : OpenClaim := { program := "yteclbfkeiejbeaa", sum := "747e333aa39ff9f46f817ca1d219f8732529c3a8b46a347fd3ee9091f3c723c0", func := "carpetbag/carpetbaglaw15.RelayFair", spec := "relayFair", apart := false }
def RelayFairSaid : Prop := relayFairRow.holds Try.pinned (OpenSpec.ofChange relayFairSpec)

/-- ITS FALSE NEIGHBOUR: 'it returns false'. Refute it at one input. -/
def relayFairWrong : ChangeSpec := { name := "relayFair", fn := fun _ => fun
  | [d1, d2, d3] => { results := [.lit (.bool false)], args := [d1, d2, d3] }
  | _ => none }
def RelayFairWrongFalsely : Prop := relayFairRow.holds Try.pinned (OpenSpec.ofChange relayFairWrong)

/-- 'carpetbaglaw15.RelaySees': WHATEVER THE INPUT: true; the input reads as it did. -/
def relaySeesSpec : ChangeSpec := { name := "relaySees", fn := fun _ => fun
  | [d1, d2] => { results := [.lit (.bool true)], args := [d1, d2] }
  | _ => none }
def relaySeesRow : OpenClaim := { program := "yteclbfkeiejbeaa", sum := "747e333aa39ff9f46f817ca1d219f8732529c3a8b46a347fd3ee9091f3c723c0", func := "carpetbag/carpetbaglaw15.RelaySees", spec := "relaySees", apart := false }
def RelaySeesSaid : Prop := relaySeesRow.holds Try.pinned (OpenSpec.ofChange relaySeesSpec)

/-- ITS FALSE NEIGHBOUR: 'it returns false'. Refute it at one input. -/
def relaySeesWrong : ChangeSpec := { name := "relaySees", fn := fun _ => fun
  | [d1, d2] => { results := [.lit (.bool false)], args := [d1, d2] }
  | _ => none }
def RelaySeesWrongFalsely : Prop := relaySeesRow.holds Try.pinned (OpenSpec.ofChange relaySeesWrong)

/-- 'carpetbaglaw15.RelayParts': WHATEVER THE INPUT: true; the input reads as it did. -/
def relayPartsSpec : ChangeSpec := { name := "relayParts", fn := fun _ => fun
  | [d1, d2, d3] => { results := [.lit (.bool true)], args := [d1, d2, d3] }
  | _ => none }
def relayPartsRow : OpenClaim := { program := "yteclbfkeiejbeaa", sum := "747e333aa39ff9f46f817ca1d219f8732529c3a8b46a347fd3ee9091f3c723c0", func := "carpetbag/carpetbaglaw15.RelayParts", spec := "relayParts", apart := false }
def RelayPartsSaid : Prop := relayPartsRow.holds Try.pinned (OpenSpec.ofChange relayPartsSpec)

/-- ITS FALSE NEIGHBOUR: 'it returns false'. Refute it at one input. -/
def relayPartsWrong : ChangeSpec := { name := "relayParts", fn := fun _ => fun
  | [d1, d2, d3] => { results := [.lit (.bool false)], args := [d1, d2, d3] }
  | _ => none }
def RelayPartsWrongFalsely : Prop := relayPartsRow.holds Try.pinned (OpenSpec.ofChange relayPartsWrong)

/- THE SECOND FORM. 'bulk': how many values and letters a reading holds, each counted each time it is reached (what is shared counts as often as it is met; a slice's spare places count too). A statement '..UptoSaid' is the law's where the arguments, and the package variables that the reading takes, are together of bulk at most 1048576: NARROWER than '..Said'. Prove '..Said' where nothing that the law and all that it calls make is longer than what came in: it says more and counts as full. Else prove '..UptoSaid'. A law counts once. -/
mutual
def uptoBulk {H : Type} : DataW H → Nat
  | .lit (.string bytes) => bytes.length + 1
  | .lit _ => 1
  | .nil => 1
  | .ptr d => uptoBulk d + 1
  | .slice elems spare => uptoBulkAll elems + uptoBulkAll spare + 1
  | .agg parts => uptoBulkAll parts + 1
  | .iface _ d => uptoBulk d + 1
  | .map entries => uptoBulkEntries entries + 1
  | .held _ => 1
def uptoBulkAll {H : Type} : List (DataW H) → Nat
  | [] => 0
  | d :: r => uptoBulk d + uptoBulkAll r
def uptoBulkEntries {H : Type} : List (Lit × DataW H) → Nat
  | [] => 0
  | x :: r => uptoBulkEntry x + uptoBulkEntries r
def uptoBulkEntry {H : Type} : Lit × DataW H → Nat
  | (.string bytes, d) => bytes.length + uptoBulk d + 1
  | (_, d) => uptoBulk d + 1
 end
def uptoSmall : (H : Type) → List (DataW H) → Bool := fun _ ds => decide (uptoBulkAll ds ≤ 1048576)
def OpenSpec.upto (s : _root_.Go.ChangeSpec) : _root_.Go.OpenSpec := { _root_.Go.OpenSpec.ofChange s with cond := some uptoSmall }

/-- 'carpetbaglaw15.RelayPlays', WHERE WHAT IT READS IS OF BULK AT MOST 1048576: true; the input reads as it did. -/
def relayPlaysUptoRow : OpenClaim := { program := "yteclbfkeiejbeaa", sum := "747e333aa39ff9f46f817ca1d219f8732529c3a8b46a347fd3ee9091f3c723c0", func := "carpetbag/carpetbaglaw15.RelayPlays", spec := "relayPlays", apart := false, narrowed := true }
def RelayPlaysUptoSaid : Prop := relayPlaysUptoRow.holds Try.pinned (OpenSpec.upto relayPlaysSpec)

/-- 'carpetbaglaw15.RelayAnswers', WHERE WHAT IT READS IS OF BULK AT MOST 1048576: true; the input reads as it did. -/
def relayAnswersUptoRow : OpenClaim := { program := "yteclbfkeiejbeaa", sum := "747e333aa39ff9f46f817ca1d219f8732529c3a8b46a347fd3ee9091f3c723c0", func := "carpetbag/carpetbaglaw15.RelayAnswers", spec := "relayAnswers", apart := false, narrowed := true }
def RelayAnswersUptoSaid : Prop := relayAnswersUptoRow.holds Try.pinned (OpenSpec.upto relayAnswersSpec)

/-- 'carpetbaglaw15.RelayFair', WHERE WHAT IT READS IS OF BULK AT MOST 1048576: true; the input reads as it did. -/
def relayFairUptoRow : OpenClaim := { program := "yteclbfkeiejbeaa", sum := "747e333aa39ff9f46f817ca1d219f8732529c3a8b46a347fd3ee9091f3c723c0", func := "carpetbag/carpetbaglaw15.RelayFair", spec := "relayFair", apart := false, narrowed := true }
def RelayFairUptoSaid : Prop := relayFairUptoRow.holds Try.pinned (OpenSpec.upto relayFairSpec)

/-- 'carpetbaglaw15.RelaySees', WHERE WHAT IT READS IS OF BULK AT MOST 1048576: true; the input reads as it did. -/
def relaySeesUptoRow : OpenClaim := { program := "yteclbfkeiejbeaa", sum := "747e333aa39ff9f46f817ca1d219f8732529c3a8b46a347fd3ee9091f3c723c0", func := "carpetbag/carpetbaglaw15.RelaySees", spec := "relaySees", apart := false, narrowed := true }
def RelaySeesUptoSaid : Prop := relaySeesUptoRow.holds Try.pinned (OpenSpec.upto relaySeesSpec)

/-- 'carpetbaglaw15.RelayParts', WHERE WHAT IT READS IS OF BULK AT MOST 1048576: true; the input reads as it did. -/
def relayPartsUptoRow : OpenClaim := { program := "yteclbfkeiejbeaa", sum := "747e333aa39ff9f46f817ca1d219f8732529c3a8b46a347fd3ee9091f3c723c0", func := "carpetbag/carpetbaglaw15.RelayParts", spec := "relayParts", apart := false, narrowed := true }
def RelayPartsUptoSaid : Prop := relayPartsUptoRow.holds Try.pinned (OpenSpec.upto relayPartsSpec)

end Rows
end Go.Proofs.Yteclbfkeiejbeaa
