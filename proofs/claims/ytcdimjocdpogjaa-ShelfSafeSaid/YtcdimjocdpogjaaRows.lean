/-
  No cell of these rows narrows 'for every input' (looked for: loops, veiled, ifaces, maps, wideKeys, modest, calm, conditions, laid).
  DERIVED. THE GIVEN ROWS OF THIS SEAT. 5 by the template 'for every input the law returns true; each argument reads behind the call as it read before'; 0 by the template 'total and deterministic' (their statements: YtcdimjocdpogjaaTotals.lean).
  GIVEN WITH THE SEED: the statements are not yours to turn. If you find one false, say at which input.
  Laid BY PROGRAM, IN A SANDBOX (cutbox-rows.mjs): the forced cells as the released guide's own fill.sh prints them over the translation 9487115fe57b997d… (all of the seat's roots in one cut). By AI agents, Wed Nov 11 2026. No macro, syntax, notation, axiom, sorry.
-/
import Derived.Test.YtcdimjocdpogjaaChecked
import GoSem.Claim
import GoSem.ClaimJoined
import GoSem.ClaimMapViews
import Derived.JoinedTies
import Derived.KernelRfl
namespace Go.Proofs.Ytcdimjocdpogjaa
/- THE CELL 'sum', in the pinned program and in every row, IS THE sha256 OF THE DUMP (.gsa) THAT YtcdimjocdpogjaaProg.lean LOADS. Nothing in Lean hashes anything: it is a label: what it is worth is what the hold of that sum in a sandbox is worth. -/
noncomputable def Try.pinned : Pinned := { name := "ytcdimjocdpogjaa", sum := "9487115fe57b997d7f2729a5d14a29adc20147400d02edbb012c86c5ef1dad32", checked := Try.checked }
namespace Rows
def none {H : Type} : Left H := { results := [], args := [] }

/-- 'milestonelaw05.ShelfKeeps': WHATEVER THE INPUT: true; the input reads as it did. -/
def shelfKeepsSpec : ChangeSpec := { name := "shelfKeeps", fn := fun _ => fun
  | [d1, d2, d3] => { results := [.lit (.bool true)], args := [d1, d2, d3] }
  | _ => none }
def shelfKeepsRow : OpenClaim := { program := "ytcdimjocdpogjaa", sum := "9487115fe57b997d7f2729a5d14a29adc20147400d02edbb012c86c5ef1dad32", func := "milestone/milestonelaw05.ShelfKeeps", spec := "shelfKeeps", inPlace := ["maps.clone"], unfollowed := true, recurses := true, apart := false }
def ShelfKeepsSaid : Prop := shelfKeepsRow.holds Try.pinned (OpenSpec.ofChange shelfKeepsSpec)

/-- ITS FALSE NEIGHBOUR: 'it returns false'. Refute it at one input. -/
def shelfKeepsWrong : ChangeSpec := { name := "shelfKeeps", fn := fun _ => fun
  | [d1, d2, d3] => { results := [.lit (.bool false)], args := [d1, d2, d3] }
  | _ => none }
def ShelfKeepsWrongFalsely : Prop := shelfKeepsRow.holds Try.pinned (OpenSpec.ofChange shelfKeepsWrong)

/-- 'milestonelaw05.ShelfRenames': WHATEVER THE INPUT: true; the input reads as it did. -/
def shelfRenamesSpec : ChangeSpec := { name := "shelfRenames", fn := fun _ => fun
  | [d1, d2, d3] => { results := [.lit (.bool true)], args := [d1, d2, d3] }
  | _ => none }
def shelfRenamesRow : OpenClaim := { program := "ytcdimjocdpogjaa", sum := "9487115fe57b997d7f2729a5d14a29adc20147400d02edbb012c86c5ef1dad32", func := "milestone/milestonelaw05.ShelfRenames", spec := "shelfRenames", inPlace := ["maps.clone"], unfollowed := true, recurses := true, apart := false }
def ShelfRenamesSaid : Prop := shelfRenamesRow.holds Try.pinned (OpenSpec.ofChange shelfRenamesSpec)

/-- ITS FALSE NEIGHBOUR: 'it returns false'. Refute it at one input. -/
def shelfRenamesWrong : ChangeSpec := { name := "shelfRenames", fn := fun _ => fun
  | [d1, d2, d3] => { results := [.lit (.bool false)], args := [d1, d2, d3] }
  | _ => none }
def ShelfRenamesWrongFalsely : Prop := shelfRenamesRow.holds Try.pinned (OpenSpec.ofChange shelfRenamesWrong)

/-- 'milestonelaw05.ShelfNames': WHATEVER THE INPUT: true; the input reads as it did. -/
def shelfNamesSpec : ChangeSpec := { name := "shelfNames", fn := fun _ => fun
  | [d1, d2, d3] => { results := [.lit (.bool true)], args := [d1, d2, d3] }
  | _ => none }
def shelfNamesRow : OpenClaim := { program := "ytcdimjocdpogjaa", sum := "9487115fe57b997d7f2729a5d14a29adc20147400d02edbb012c86c5ef1dad32", func := "milestone/milestonelaw05.ShelfNames", spec := "shelfNames", inPlace := ["maps.clone"], unfollowed := true, recurses := true, apart := false }
def ShelfNamesSaid : Prop := shelfNamesRow.holds Try.pinned (OpenSpec.ofChange shelfNamesSpec)

/-- ITS FALSE NEIGHBOUR: 'it returns false'. Refute it at one input. -/
def shelfNamesWrong : ChangeSpec := { name := "shelfNames", fn := fun _ => fun
  | [d1, d2, d3] => { results := [.lit (.bool false)], args := [d1, d2, d3] }
  | _ => none }
def ShelfNamesWrongFalsely : Prop := shelfNamesRow.holds Try.pinned (OpenSpec.ofChange shelfNamesWrong)

/-- 'milestonelaw05.ShelfSafe': WHATEVER THE INPUT: true; the input reads as it did. -/
def shelfSafeSpec : ChangeSpec := { name := "shelfSafe", fn := fun _ => fun
  | [d1, d2, d3, d4] => { results := [.lit (.bool true)], args := [d1, d2, d3, d4] }
  | _ => none }
def shelfSafeRow : OpenClaim := { program := "ytcdimjocdpogjaa", sum := "9487115fe57b997d7f2729a5d14a29adc20147400d02edbb012c86c5ef1dad32", func := "milestone/milestonelaw05.ShelfSafe", spec := "shelfSafe", inPlace := ["maps.clone"], unfollowed := true, recurses := true, apart := false }
def ShelfSafeSaid : Prop := shelfSafeRow.holds Try.pinned (OpenSpec.ofChange shelfSafeSpec)

/-- ITS FALSE NEIGHBOUR: 'it returns false'. Refute it at one input. -/
def shelfSafeWrong : ChangeSpec := { name := "shelfSafe", fn := fun _ => fun
  | [d1, d2, d3, d4] => { results := [.lit (.bool false)], args := [d1, d2, d3, d4] }
  | _ => none }
def ShelfSafeWrongFalsely : Prop := shelfSafeRow.holds Try.pinned (OpenSpec.ofChange shelfSafeWrong)

/-- 'milestonelaw05.ShelfRoom': WHATEVER THE INPUT: true; the input reads as it did. -/
def shelfRoomSpec : ChangeSpec := { name := "shelfRoom", fn := fun _ => fun
  | [d1, d2] => { results := [.lit (.bool true)], args := [d1, d2] }
  | _ => none }
def shelfRoomRow : OpenClaim := { program := "ytcdimjocdpogjaa", sum := "9487115fe57b997d7f2729a5d14a29adc20147400d02edbb012c86c5ef1dad32", func := "milestone/milestonelaw05.ShelfRoom", spec := "shelfRoom", inPlace := ["maps.clone"], unfollowed := true, recurses := true, apart := false }
def ShelfRoomSaid : Prop := shelfRoomRow.holds Try.pinned (OpenSpec.ofChange shelfRoomSpec)

/-- ITS FALSE NEIGHBOUR: 'it returns false'. Refute it at one input. -/
def shelfRoomWrong : ChangeSpec := { name := "shelfRoom", fn := fun _ => fun
  | [d1, d2] => { results := [.lit (.bool false)], args := [d1, d2] }
  | _ => none }
def ShelfRoomWrongFalsely : Prop := shelfRoomRow.holds Try.pinned (OpenSpec.ofChange shelfRoomWrong)

/- THE SECOND FORM. 'bulk': how many values and letters a reading holds, each counted each time it is reached (what is shared counts as often as it is met; a slice's spare places count too). A statement '..UptoSaid' is the law's where the arguments, and the package variables that the reading takes, are together of bulk at most 1048576: NARROWER than '..Said'. Prove '..Said' where nothing that the law and all that it calls make is longer than what came in: it says more and counts as full. Else prove '..UptoSaid'. A law counts once. -/
mutual
def uptoBulk {H : Type} : DataW H → Nat
  | .lit (.string bytes) => bytes.length + 1
  | .lit _ => 1
  | .nil => 1
  | .ptr d => uptoBulk d + 1
  | .slice elems spare => uptoBulkAll elems + uptoBulkAll spare + 1
  | .agg parts => uptoBulkAll parts + 1
  | .iface _ d => uptoBulk d + 1
  | .map entries => uptoBulkEntries entries + 1
  | .held _ => 1
def uptoBulkAll {H : Type} : List (DataW H) → Nat
  | [] => 0
  | d :: r => uptoBulk d + uptoBulkAll r
def uptoBulkEntries {H : Type} : List (Lit × DataW H) → Nat
  | [] => 0
  | x :: r => uptoBulkEntry x + uptoBulkEntries r
def uptoBulkEntry {H : Type} : Lit × DataW H → Nat
  | (.string bytes, d) => bytes.length + uptoBulk d + 1
  | (_, d) => uptoBulk d + 1
 end
def uptoSmall : (H : Type) → List (DataW H) → Bool := fun _ ds => decide (uptoBulkAll ds ≤ 1048576)
def OpenSpec.upto (s : _root_.Go.ChangeSpec) : _root_.Go.OpenSpec := { _root_.Go.OpenSpec.ofChange s with cond := some uptoSmall }

/-- 'milestonelaw05.ShelfKeeps', WHERE WHAT IT READS IS OF BULK AT MOST 1048576: true; the input reads as it did. -/
def shelfKeepsUptoRow : OpenClaim := { program := "ytcdimjocdpogjaa", sum := "9487115fe57b997d7f2729a5d14a29adc20147400d02edbb012c86c5ef1dad32", func := "milestone/milestonelaw05.ShelfKeeps", spec := "shelfKeeps", inPlace := ["maps.clone"], unfollowed := true, recurses := true, apart := false, narrowed := true }
def ShelfKeepsUptoSaid : Prop := shelfKeepsUptoRow.holds Try.pinned (OpenSpec.upto shelfKeepsSpec)

/-- 'milestonelaw05.ShelfRenames', WHERE WHAT IT READS IS OF BULK AT MOST 1048576: true; the input reads as it did. -/
def shelfRenamesUptoRow : OpenClaim := { program := "ytcdimjocdpogjaa", sum := "9487115fe57b997d7f2729a5d14a29adc20147400d02edbb012c86c5ef1dad32", func := "milestone/milestonelaw05.ShelfRenames", spec := "shelfRenames", inPlace := ["maps.clone"], unfollowed := true, recurses := true, apart := false, narrowed := true }
def ShelfRenamesUptoSaid : Prop := shelfRenamesUptoRow.holds Try.pinned (OpenSpec.upto shelfRenamesSpec)

/-- 'milestonelaw05.ShelfNames', WHERE WHAT IT READS IS OF BULK AT MOST 1048576: true; the input reads as it did. -/
def shelfNamesUptoRow : OpenClaim := { program := "ytcdimjocdpogjaa", sum := "9487115fe57b997d7f2729a5d14a29adc20147400d02edbb012c86c5ef1dad32", func := "milestone/milestonelaw05.ShelfNames", spec := "shelfNames", inPlace := ["maps.clone"], unfollowed := true, recurses := true, apart := false, narrowed := true }
def ShelfNamesUptoSaid : Prop := shelfNamesUptoRow.holds Try.pinned (OpenSpec.upto shelfNamesSpec)

/-- 'milestonelaw05.ShelfSafe', WHERE WHAT IT READS IS OF BULK AT MOST 1048576: true; the input reads as it did. -/
def shelfSafeUptoRow : OpenClaim := { program := "ytcdimjocdpogjaa", sum := "9487115fe57b997d7f2729a5d14a29adc20147400d02edbb012c86c5ef1dad32", func := "milestone/milestonelaw05.ShelfSafe", spec := "shelfSafe", inPlace := ["maps.clone"], unfollowed := true, recurses := true, apart := false, narrowed := true }
def ShelfSafeUptoSaid : Prop := shelfSafeUptoRow.holds Try.pinned (OpenSpec.upto shelfSafeSpec)

/-- 'milestonelaw05.ShelfRoom', WHERE WHAT IT READS IS OF BULK AT MOST 1048576: true; the input reads as it did. -/
def shelfRoomUptoRow : OpenClaim := { program := "ytcdimjocdpogjaa", sum := "9487115fe57b997d7f2729a5d14a29adc20147400d02edbb012c86c5ef1dad32", func := "milestone/milestonelaw05.ShelfRoom", spec := "shelfRoom", inPlace := ["maps.clone"], unfollowed := true, recurses := true, apart := false, narrowed := true }
def ShelfRoomUptoSaid : Prop := shelfRoomUptoRow.holds Try.pinned (OpenSpec.upto shelfRoomSpec)

end Rows
end Go.Proofs.Ytcdimjocdpogjaa
