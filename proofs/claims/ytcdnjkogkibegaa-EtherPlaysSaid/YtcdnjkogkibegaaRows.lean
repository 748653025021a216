/-
  No cell of these rows narrows 'for every input' (looked for: loops, veiled, ifaces, maps, wideKeys, modest, calm, conditions, laid).
  DERIVED. THE GIVEN ROWS OF THIS SEAT. 6 by the template 'for every input the law returns true; each argument reads behind the call as it read before'; 0 by the template 'total and deterministic' (their statements: YtcdnjkogkibegaaTotals.lean).
  GIVEN WITH THE SEED: the statements are not yours to turn. If you find one false, say at which input.
  Laid BY PROGRAM, IN A SANDBOX (cutbox-rows.mjs): the forced cells as the released guide's own fill.sh prints them over the translation 244e617629fa5c34… (all of the seat's roots in one cut). By AI agents, Wed Nov 11 2026. No macro, syntax, notation, axiom, sorry.
-/
import Derived.Test.YtcdnjkogkibegaaChecked
import GoSem.Claim
import GoSem.ClaimJoined
import GoSem.ClaimMapViews
import Derived.JoinedTies
import Derived.KernelRfl
namespace Go.Proofs.Ytcdnjkogkibegaa
/- THE CELL 'sum', in the pinned program and in every row, IS THE sha256 OF THE DUMP (.gsa) THAT YtcdnjkogkibegaaProg.lean LOADS. Nothing in Lean hashes anything: it is a label: what it is worth is what the hold of that sum in a sandbox is worth. -/
noncomputable def Try.pinned : Pinned := { name := "ytcdnjkogkibegaa", sum := "244e617629fa5c347a3a68b208891d368660ac5cde054a13f92f71344a208407", checked := Try.checked }
namespace Rows
def none {H : Type} : Left H := { results := [], args := [] }

/-- 'milestonelaw19.EtherMost': WHATEVER THE INPUT: true; the input reads as it did. -/
def etherMostSpec : ChangeSpec := { name := "etherMost", fn := fun _ => fun
  | [d] => { results := [.lit (.bool true)], args := [d] }
  | _ => none }
def etherMostRow : OpenClaim := { program := "ytcdnjkogkibegaa", sum := "244e617629fa5c347a3a68b208891d368660ac5cde054a13f92f71344a208407", func := "milestone/milestonelaw19.EtherMost", spec := "etherMost", apart := false }
def EtherMostSaid : Prop := etherMostRow.holds Try.pinned (OpenSpec.ofChange etherMostSpec)

/-- ITS FALSE NEIGHBOUR: 'it returns false'. Refute it at one input. -/
def etherMostWrong : ChangeSpec := { name := "etherMost", fn := fun _ => fun
  | [d] => { results := [.lit (.bool false)], args := [d] }
  | _ => none }
def EtherMostWrongFalsely : Prop := etherMostRow.holds Try.pinned (OpenSpec.ofChange etherMostWrong)

/-- 'milestonelaw19.EtherCuts': WHATEVER THE INPUT: true; the input reads as it did. -/
def etherCutsSpec : ChangeSpec := { name := "etherCuts", fn := fun _ => fun
  | [d1, d2, d3] => { results := [.lit (.bool true)], args := [d1, d2, d3] }
  | _ => none }
def etherCutsRow : OpenClaim := { program := "ytcdnjkogkibegaa", sum := "244e617629fa5c347a3a68b208891d368660ac5cde054a13f92f71344a208407", func := "milestone/milestonelaw19.EtherCuts", spec := "etherCuts", apart := false }
def EtherCutsSaid : Prop := etherCutsRow.holds Try.pinned (OpenSpec.ofChange etherCutsSpec)

/-- ITS FALSE NEIGHBOUR: 'it returns false'. Refute it at one input. -/
def etherCutsWrong : ChangeSpec := { name := "etherCuts", fn := fun _ => fun
  | [d1, d2, d3] => { results := [.lit (.bool false)], args := [d1, d2, d3] }
  | _ => none }
def EtherCutsWrongFalsely : Prop := etherCutsRow.holds Try.pinned (OpenSpec.ofChange etherCutsWrong)

/-- 'milestonelaw20.IdealFolds': WHATEVER THE INPUT: true; the input reads as it did. -/
def idealFoldsSpec : ChangeSpec := { name := "idealFolds", fn := fun _ => fun
  | [d1, d2] => { results := [.lit (.bool true)], args := [d1, d2] }
  | _ => none }
def idealFoldsRow : OpenClaim := { program := "ytcdnjkogkibegaa", sum := "244e617629fa5c347a3a68b208891d368660ac5cde054a13f92f71344a208407", func := "milestone/milestonelaw20.IdealFolds", spec := "idealFolds", apart := false }
def IdealFoldsSaid : Prop := idealFoldsRow.holds Try.pinned (OpenSpec.ofChange idealFoldsSpec)

/-- ITS FALSE NEIGHBOUR: 'it returns false'. Refute it at one input. -/
def idealFoldsWrong : ChangeSpec := { name := "idealFolds", fn := fun _ => fun
  | [d1, d2] => { results := [.lit (.bool false)], args := [d1, d2] }
  | _ => none }
def IdealFoldsWrongFalsely : Prop := idealFoldsRow.holds Try.pinned (OpenSpec.ofChange idealFoldsWrong)

/-- 'milestonelaw20.IdealFalls': WHATEVER THE INPUT: true; the input reads as it did. -/
def idealFallsSpec : ChangeSpec := { name := "idealFalls", fn := fun _ => fun
  | [d1, d2, d3, d4] => { results := [.lit (.bool true)], args := [d1, d2, d3, d4] }
  | _ => none }
def idealFallsRow : OpenClaim := { program := "ytcdnjkogkibegaa", sum := "244e617629fa5c347a3a68b208891d368660ac5cde054a13f92f71344a208407", func := "milestone/milestonelaw20.IdealFalls", spec := "idealFalls", apart := false }
def IdealFallsSaid : Prop := idealFallsRow.holds Try.pinned (OpenSpec.ofChange idealFallsSpec)

/-- ITS FALSE NEIGHBOUR: 'it returns false'. Refute it at one input. -/
def idealFallsWrong : ChangeSpec := { name := "idealFalls", fn := fun _ => fun
  | [d1, d2, d3, d4] => { results := [.lit (.bool false)], args := [d1, d2, d3, d4] }
  | _ => none }
def IdealFallsWrongFalsely : Prop := idealFallsRow.holds Try.pinned (OpenSpec.ofChange idealFallsWrong)

/-- 'milestonelaw19.EtherPlays': WHATEVER THE INPUT: true; the input reads as it did. -/
def etherPlaysSpec : ChangeSpec := { name := "etherPlays", fn := fun _ => fun
  | [d] => { results := [.lit (.bool true)], args := [d] }
  | _ => none }
def etherPlaysRow : OpenClaim := { program := "ytcdnjkogkibegaa", sum := "244e617629fa5c347a3a68b208891d368660ac5cde054a13f92f71344a208407", func := "milestone/milestonelaw19.EtherPlays", spec := "etherPlays", apart := false }
def EtherPlaysSaid : Prop := etherPlaysRow.holds Try.pinned (OpenSpec.ofChange etherPlaysSpec)

/-- ITS FALSE NEIGHBOUR: 'it returns false'. Refute it at one input. -/
def etherPlaysWrong : ChangeSpec := { name := "etherPlays", fn := fun _ => fun
  | [d] => { results := [.lit (.bool false)], args := [d] }
  | _ => none }
def EtherPlaysWrongFalsely : Prop := etherPlaysRow.holds Try.pinned (OpenSpec.ofChange etherPlaysWrong)

/-- 'milestonelaw19.EtherBounds': WHATEVER THE INPUT: true; the input reads as it did. -/
def etherBoundsSpec : ChangeSpec := { name := "etherBounds", fn := fun _ => fun
  | [d1, d2, d3, d4] => { results := [.lit (.bool true)], args := [d1, d2, d3, d4] }
  | _ => none }
def etherBoundsRow : OpenClaim := { program := "ytcdnjkogkibegaa", sum := "244e617629fa5c347a3a68b208891d368660ac5cde054a13f92f71344a208407", func := "milestone/milestonelaw19.EtherBounds", spec := "etherBounds", apart := false }
def EtherBoundsSaid : Prop := etherBoundsRow.holds Try.pinned (OpenSpec.ofChange etherBoundsSpec)

/-- ITS FALSE NEIGHBOUR: 'it returns false'. Refute it at one input. -/
def etherBoundsWrong : ChangeSpec := { name := "etherBounds", fn := fun _ => fun
  | [d1, d2, d3, d4] => { results := [.lit (.bool false)], args := [d1, d2, d3, d4] }
  | _ => none }
def EtherBoundsWrongFalsely : Prop := etherBoundsRow.holds Try.pinned (OpenSpec.ofChange etherBoundsWrong)

/- THE SECOND FORM. 'bulk': how many values and letters a reading holds, each counted each time it is reached (what is shared counts as often as it is met; a slice's spare places count too). A statement '..UptoSaid' is the law's where the arguments, and the package variables that the reading takes, are together of bulk at most 1048576: NARROWER than '..Said'. Prove '..Said' where nothing that the law and all that it calls make is longer than what came in: it says more and counts as full. Else prove '..UptoSaid'. A law counts once. -/
mutual
def uptoBulk {H : Type} : DataW H → Nat
  | .lit (.string bytes) => bytes.length + 1
  | .lit _ => 1
  | .nil => 1
  | .ptr d => uptoBulk d + 1
  | .slice elems spare => uptoBulkAll elems + uptoBulkAll spare + 1
  | .agg parts => uptoBulkAll parts + 1
  | .iface _ d => uptoBulk d + 1
  | .map entries => uptoBulkEntries entries + 1
  | .held _ => 1
def uptoBulkAll {H : Type} : List (DataW H) → Nat
  | [] => 0
  | d :: r => uptoBulk d + uptoBulkAll r
def uptoBulkEntries {H : Type} : List (Lit × DataW H) → Nat
  | [] => 0
  | x :: r => uptoBulkEntry x + uptoBulkEntries r
def uptoBulkEntry {H : Type} : Lit × DataW H → Nat
  | (.string bytes, d) => bytes.length + uptoBulk d + 1
  | (_, d) => uptoBulk d + 1
 end
def uptoSmall : (H : Type) → List (DataW H) → Bool := fun _ ds => decide (uptoBulkAll ds ≤ 1048576)
def OpenSpec.upto (s : _root_.Go.ChangeSpec) : _root_.Go.OpenSpec := { _root_.Go.OpenSpec.ofChange s with cond := some uptoSmall }

/-- 'milestonelaw19.EtherMost', WHERE WHAT IT READS IS OF BULK AT MOST 1048576: true; the input reads as it did. -/
def etherMostUptoRow : OpenClaim := { program := "ytcdnjkogkibegaa", sum := "244e617629fa5c347a3a68b208891d368660ac5cde054a13f92f71344a208407", func := "milestone/milestonelaw19.EtherMost", spec := "etherMost", apart := false, narrowed := true }
def EtherMostUptoSaid : Prop := etherMostUptoRow.holds Try.pinned (OpenSpec.upto etherMostSpec)

/-- 'milestonelaw19.EtherCuts', WHERE WHAT IT READS IS OF BULK AT MOST 1048576: true; the input reads as it did. -/
def etherCutsUptoRow : OpenClaim := { program := "ytcdnjkogkibegaa", sum := "244e617629fa5c347a3a68b208891d368660ac5cde054a13f92f71344a208407", func := "milestone/milestonelaw19.EtherCuts", spec := "etherCuts", apart := false, narrowed := true }
def EtherCutsUptoSaid : Prop := etherCutsUptoRow.holds Try.pinned (OpenSpec.upto etherCutsSpec)

/-- 'milestonelaw20.IdealFolds', WHERE WHAT IT READS IS OF BULK AT MOST 1048576: true; the input reads as it did. -/
def idealFoldsUptoRow : OpenClaim := { program := "ytcdnjkogkibegaa", sum := "244e617629fa5c347a3a68b208891d368660ac5cde054a13f92f71344a208407", func := "milestone/milestonelaw20.IdealFolds", spec := "idealFolds", apart := false, narrowed := true }
def IdealFoldsUptoSaid : Prop := idealFoldsUptoRow.holds Try.pinned (OpenSpec.upto idealFoldsSpec)

/-- 'milestonelaw20.IdealFalls', WHERE WHAT IT READS IS OF BULK AT MOST 1048576: true; the input reads as it did. -/
def idealFallsUptoRow : OpenClaim := { program := "ytcdnjkogkibegaa", sum := "244e617629fa5c347a3a68b208891d368660ac5cde054a13f92f71344a208407", func := "milestone/milestonelaw20.IdealFalls", spec := "idealFalls", apart := false, narrowed := true }
def IdealFallsUptoSaid : Prop := idealFallsUptoRow.holds Try.pinned (OpenSpec.upto idealFallsSpec)

/-- 'milestonelaw19.EtherPlays', WHERE WHAT IT READS IS OF BULK AT MOST 1048576: true; the input reads as it did. -/
def etherPlaysUptoRow : OpenClaim := { program := "ytcdnjkogkibegaa", sum := "244e617629fa5c347a3a68b208891d368660ac5cde054a13f92f71344a208407", func := "milestone/milestonelaw19.EtherPlays", spec := "etherPlays", apart := false, narrowed := true }
def EtherPlaysUptoSaid : Prop := etherPlaysUptoRow.holds Try.pinned (OpenSpec.upto etherPlaysSpec)

/-- 'milestonelaw19.EtherBounds', WHERE WHAT IT READS IS OF BULK AT MOST 1048576: true; the input reads as it did. -/
def etherBoundsUptoRow : OpenClaim := { program := "ytcdnjkogkibegaa", sum := "244e617629fa5c347a3a68b208891d368660ac5cde054a13f92f71344a208407", func := "milestone/milestonelaw19.EtherBounds", spec := "etherBounds", apart := false, narrowed := true }
def EtherBoundsUptoSaid : Prop := etherBoundsUptoRow.holds Try.pinned (OpenSpec.upto etherBoundsSpec)

end Rows
end Go.Proofs.Ytcdnjkogkibegaa
