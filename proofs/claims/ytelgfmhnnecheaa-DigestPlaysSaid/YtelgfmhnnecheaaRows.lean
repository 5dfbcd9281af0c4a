/-
  No cell of these rows narrows 'for every input' (looked for: loops, veiled, ifaces, maps, wideKeys, modest, calm, conditions, laid).
  DERIVED. THE GIVEN ROWS OF THIS SEAT. 5 by the template 'for every input the law returns true; each argument reads behind the call as it read before'; 0 by the template 'total and deterministic' (their statements: YtelgfmhnnecheaaTotals.lean).
  GIVEN WITH THE SEED: the statements are not yours to turn. If you find one false, say at which input.
  Laid BY PROGRAM, IN A SANDBOX (cutbox-rows.mjs): the forced cells as the released guide's own fill.sh prints them over the translation be51a031c43e8f0d… (all of the seat's roots in one cut). By AI agents, Wed Nov 11 2026. No macro, syntax, notation, axiom, sorry.
-/
import Derived.Test.YtelgfmhnnecheaaChecked
import GoSem.Claim
import GoSem.ClaimJoined
import GoSem.ClaimMapViews
import Derived.JoinedTies
import Derived.KernelRfl
namespace Go.Proofs.Ytelgfmhnnecheaa
/- THE CELL 'sum', in the pinned program and in every row, IS THE sha256 OF THE DUMP (.gsa) THAT YtelgfmhnnecheaaProg.lean LOADS. Nothing in Lean hashes anything: it is a label: what it is worth is what the hold of that sum in a sandbox is worth. -/
noncomputable def Try.pinned : Pinned := { name := "ytelgfmhnnecheaa", sum := "be51a031c43e8f0d558daef78972f895069417acb2d3b59d44761b1a4cd3adc3", checked := Try.checked }
namespace Rows
def none {H : Type} : Left H := { results := [], args := [] }

/-- 'carpetbaglaw06.DigestPlays': WHATEVER THE INPUT: true; the input reads as it did. -/
def digestPlaysSpec : ChangeSpec := { name := "digestPlays", fn := fun _ => fun
  | [d1, d2] => { results := [.lit (.bool true)], args := [d1, d2] }
  | _ => none }
def digestPlaysRow : OpenClaim := { program := "ytelgfmhnnecheaa", sum := "be51a031c43e8f0d558daef78972f895069417acb2d3b59d44761b1a4cd3adc3", func := "carpetbag/carpetbaglaw06.DigestPlays", spec := "digestPlays", apart := false }
def DigestPlaysSaid : Prop := digestPlaysRow.holds Try.pinned (OpenSpec.ofChange digestPlaysSpec)

/-- ITS FALSE NEIGHBOUR: 'it returns false'. Refute it at one input. -/
def digestPlaysWrong : ChangeSpec := { name := "digestPlays", fn := fun _ => fun
  | [d1, d2] => { results := [.lit (.bool false)], args := [d1, d2] }
  | _ => none }
def DigestPlaysWrongFalsely : Prop := digestPlaysRow.holds Try.pinned (OpenSpec.ofChange digestPlaysWrong)

/-- 'carpetbaglaw06.DigestApart': WHATEVER THE INPUT: true; the input reads as it did. -/
def digestApartSpec : ChangeSpec := { name := "digestApart", fn := fun _ => fun
  | [d1, d2, d3] => { results := [.lit (.bool true)], args := [d1, d2, d3] }
  | _ => none }
def digestApartRow : OpenClaim := { program := "ytelgfmhnnecheaa", sum := "be51a031c43e8f0d558daef78972f895069417acb2d3b59d44761b1a4cd3adc3", func := "carpetbag/carpetbaglaw06.DigestApart", spec := "digestApart", apart := false }
def DigestApartSaid : Prop := digestApartRow.holds Try.pinned (OpenSpec.ofChange digestApartSpec)

/-- ITS FALSE NEIGHBOUR: 'it returns false'. Refute it at one input. -/
def digestApartWrong : ChangeSpec := { name := "digestApart", fn := fun _ => fun
  | [d1, d2, d3] => { results := [.lit (.bool false)], args := [d1, d2, d3] }
  | _ => none }
def DigestApartWrongFalsely : Prop := digestApartRow.holds Try.pinned (OpenSpec.ofChange digestApartWrong)

/-- 'carpetbaglaw06.DigestCounts': WHATEVER THE INPUT: true; the input reads as it did. -/
def digestCountsSpec : ChangeSpec := { name := "digestCounts", fn := fun _ => fun
  | [d] => { results := [.lit (.bool true)], args := [d] }
  | _ => none }
def digestCountsRow : OpenClaim := { program := "ytelgfmhnnecheaa", sum := "be51a031c43e8f0d558daef78972f895069417acb2d3b59d44761b1a4cd3adc3", func := "carpetbag/carpetbaglaw06.DigestCounts", spec := "digestCounts", apart := false }
def DigestCountsSaid : Prop := digestCountsRow.holds Try.pinned (OpenSpec.ofChange digestCountsSpec)

/-- ITS FALSE NEIGHBOUR: 'it returns false'. Refute it at one input. -/
def digestCountsWrong : ChangeSpec := { name := "digestCounts", fn := fun _ => fun
  | [d] => { results := [.lit (.bool false)], args := [d] }
  | _ => none }
def DigestCountsWrongFalsely : Prop := digestCountsRow.holds Try.pinned (OpenSpec.ofChange digestCountsWrong)

/-- 'carpetbaglaw06.DigestSame': WHATEVER THE INPUT: true; the input reads as it did. -/
def digestSameSpec : ChangeSpec := { name := "digestSame", fn := fun _ => fun
  | [d1, d2] => { results := [.lit (.bool true)], args := [d1, d2] }
  | _ => none }
def digestSameRow : OpenClaim := { program := "ytelgfmhnnecheaa", sum := "be51a031c43e8f0d558daef78972f895069417acb2d3b59d44761b1a4cd3adc3", func := "carpetbag/carpetbaglaw06.DigestSame", spec := "digestSame", apart := false }
def DigestSameSaid : Prop := digestSameRow.holds Try.pinned (OpenSpec.ofChange digestSameSpec)

/-- ITS FALSE NEIGHBOUR: 'it returns false'. Refute it at one input. -/
def digestSameWrong : ChangeSpec := { name := "digestSame", fn := fun _ => fun
  | [d1, d2] => { results := [.lit (.bool false)], args := [d1, d2] }
  | _ => none }
def DigestSameWrongFalsely : Prop := digestSameRow.holds Try.pinned (OpenSpec.ofChange digestSameWrong)

/-- 'carpetbaglaw06.DigestOrder': WHATEVER THE INPUT: true; the input reads as it did. -/
def digestOrderSpec : ChangeSpec := { name := "digestOrder", fn := fun _ => fun
  | [d1, d2] => { results := [.lit (.bool true)], args := [d1, d2] }
  | _ => none }
def digestOrderRow : OpenClaim := { program := "ytelgfmhnnecheaa", sum := "be51a031c43e8f0d558daef78972f895069417acb2d3b59d44761b1a4cd3adc3", func := "carpetbag/carpetbaglaw06.DigestOrder", spec := "digestOrder", apart := false }
def DigestOrderSaid : Prop := digestOrderRow.holds Try.pinned (OpenSpec.ofChange digestOrderSpec)

/-- ITS FALSE NEIGHBOUR: 'it returns false'. Refute it at one input. -/
def digestOrderWrong : ChangeSpec := { name := "digestOrder", fn := fun _ => fun
  | [d1, d2] => { results := [.lit (.bool false)], args := [d1, d2] }
  | _ => none }
def DigestOrderWrongFalsely : Prop := digestOrderRow.holds Try.pinned (OpenSpec.ofChange digestOrderWrong)

/- THE SECOND FORM. 'bulk': how many values and letters a reading holds, each counted each time it is reached (what is shared counts as often as it is met; a slice's spare places count too). A statement '..UptoSaid' is the law's where the arguments, and the package variables that the reading takes, are together of bulk at most 1048576: NARROWER than '..Said'. Prove '..Said' where nothing that the law and all that it calls make is longer than what came in: it says more and counts as full. Else prove '..UptoSaid'. A law counts once. -/
mutual
def uptoBulk {H : Type} : DataW H → Nat
  | .lit (.string bytes) => bytes.length + 1
  | .lit _ => 1
  | .nil => 1
  | .ptr d => uptoBulk d + 1
  | .slice elems spare => uptoBulkAll elems + uptoBulkAll spare + 1
  | .agg parts => uptoBulkAll parts + 1
  | .iface _ d => uptoBulk d + 1
  | .map entries => uptoBulkEntries entries + 1
  | .held _ => 1
def uptoBulkAll {H : Type} : List (DataW H) → Nat
  | [] => 0
  | d :: r => uptoBulk d + uptoBulkAll r
def uptoBulkEntries {H : Type} : List (Lit × DataW H) → Nat
  | [] => 0
  | x :: r => uptoBulkEntry x + uptoBulkEntries r
def uptoBulkEntry {H : Type} : Lit × DataW H → Nat
  | (.string bytes, d) => bytes.length + uptoBulk d + 1
  | (_, d) => uptoBulk d + 1
 end
def uptoSmall : (H : Type) → List (DataW H) → Bool := fun _ ds => decide (uptoBulkAll ds ≤ 1048576)
def OpenSpec.upto (s : _root_.Go.ChangeSpec) : _root_.Go.OpenSpec := { _root_.Go.OpenSpec.ofChange s with cond := some uptoSmall }

/-- 'carpetbaglaw06.DigestPlays', WHERE WHAT IT READS IS OF BULK AT MOST 1048576: true; the input reads as it did. -/
def digestPlaysUptoRow : OpenClaim := { program := "ytelgfmhnnecheaa", sum := "be51a031c43e8f0d558daef78972f895069417acb2d3b59d44761b1a4cd3adc3", func := "carpetbag/carpetbaglaw06.DigestPlays", spec := "digestPlays", apart := false, narrowed := true }
def DigestPlaysUptoSaid : Prop := digestPlaysUptoRow.holds Try.pinned (OpenSpec.upto digestPlaysSpec)

/-- 'carpetbaglaw06.DigestApart', WHERE WHAT IT READS IS OF BULK AT MOST 1048576: true; the input reads as it did. -/
def digestApartUptoRow : OpenClaim := { program := "ytelgfmhnnecheaa", sum := "be51a031c43e8f0d558daef78972f895069417acb2d3b59d44761b1a4cd3adc3", func := "carpetbag/carpetbaglaw06.DigestApart", spec := "digestApart", apart := false, narrowed := true }
def DigestApartUptoSaid : Prop := digestApartUptoRow.holds Try.pinned (OpenSpec.upto digestApartSpec)

/-- 'carpetbaglaw06.DigestCounts', WHERE WHAT IT READS IS OF BULK AT MOST 1048576: true; the input reads as it did. -/
def digestCountsUptoRow : OpenClaim := { program := "ytelgfmhnnecheaa", sum := "be51a031c43e8f0d558daef78972f895069417acb2d3b59d44761b1a4cd3adc3", func := "carpetbag/carpetbaglaw06.DigestCounts", spec := "digestCounts", apart := false, narrowed := true }
def DigestCountsUptoSaid : Prop := digestCountsUptoRow.holds Try.pinned (OpenSpec.upto digestCountsSpec)

/-- 'carpetbaglaw06.DigestSame', WHERE WHAT IT READS IS OF BULK AT MOST 1048576: true; the input reads as it did. -/
def digestSameUptoRow : OpenClaim := { program := "ytelgfmhnnecheaa", sum := "be51a031c43e8f0d558daef78972f895069417acb2d3b59d44761b1a4cd3adc3", func := "carpetbag/carpetbaglaw06.DigestSame", spec := "digestSame", apart := false, narrowed := true }
def DigestSameUptoSaid : Prop := digestSameUptoRow.holds Try.pinned (OpenSpec.upto digestSameSpec)

/-- 'carpetbaglaw06.DigestOrder', WHERE WHAT IT READS IS OF BULK AT MOST 1048576: true; the input reads as it did. -/
def digestOrderUptoRow : OpenClaim := { program := "ytelgfmhnnecheaa", sum := "be51a031c43e8f0d558daef78972f895069417acb2d3b59d44761b1a4cd3adc3", func := "carpetbag/carpetbaglaw06.DigestOrder", spec := "digestOrder", apart := false, narrowed := true }
def DigestOrderUptoSaid : Prop := digestOrderUptoRow.holds Try.pinned (OpenSpec.upto digestOrderSpec)

end Rows
end Go.Proofs.Ytelgfmhnnecheaa
