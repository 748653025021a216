/-
  No cell of these rows narrows 'for every input' (looked for: loops, veiled, ifaces, maps, wideKeys, modest, calm, conditions, laid).
  DERIVED. THE GIVEN ROWS OF THIS SEAT. 10 by the template 'for every input the law returns true; each argument reads behind the call as it read before'; 0 by the template 'total and deterministic' (their statements: YtngnbafididkcaaGreatTotals.lean).
  GIVEN WITH THE SEED: the statements are not yours to turn. If you find one false, say at which input.
  Laid BY PROGRAM, IN A SANDBOX (cutbox-rows.mjs): the forced cells as the released guide's own fill.sh prints them over the translation 3537f0163caaf4f7… (all of the seat's roots in one cut). By AI agents, Wed Nov 11 2026. No macro, syntax, notation, axiom, sorry.
-/
import Derived.Test.YtngnbafididkcaaGreatChecked
import GoSem.Claim
import GoSem.ClaimJoined
import GoSem.ClaimMapViews
import Derived.JoinedTies
import Derived.KernelRfl
namespace Go.Proofs.YtngnbafididkcaaGreat
/- THE CELL 'sum', in the pinned program and in every row, IS THE sha256 OF THE DUMP (.gsa) THAT YtngnbafididkcaaGreatProg.lean LOADS. Nothing in Lean hashes anything: it is a label: what it is worth is what the hold of that sum in a sandbox is worth. -/
noncomputable def Tryz.pinned : Pinned := { name := "ytngnbafididkcaagreat", sum := "3537f0163caaf4f7ec3399ef0d84a16f8eabb26007d0da536c167b1a7445549d", checked := Tryz.checked }
namespace Rows
def none {H : Type} : Left H := { results := [], args := [] }

/-- 'milestonelaw17.EngineChooses': WHATEVER THE INPUT: true; the input reads as it did. -/
def engineChoosesSpec : ChangeSpec := { name := "engineChooses", fn := fun _ => fun
  | [d1, d2, d3, d4, d5, d6] => { results := [.lit (.bool true)], args := [d1, d2, d3, d4, d5, d6] }
  | _ => none }
def engineChoosesRow : OpenClaim := { program := "ytngnbafididkcaagreat", sum := "3537f0163caaf4f7ec3399ef0d84a16f8eabb26007d0da536c167b1a7445549d", func := "milestone/milestonelaw17.EngineChooses", spec := "engineChooses", inPlace := ["slices.overlaps[milestone/source.entry]"], unfollowed := true, recurses := true, plainKeys := false, apart := false }
def EngineChoosesSaid : Prop := engineChoosesRow.holds Tryz.pinned (OpenSpec.ofChange engineChoosesSpec)

/-- ITS FALSE NEIGHBOUR: 'it returns false'. Refute it at one input. -/
def engineChoosesWrong : ChangeSpec := { name := "engineChooses", fn := fun _ => fun
  | [d1, d2, d3, d4, d5, d6] => { results := [.lit (.bool false)], args := [d1, d2, d3, d4, d5, d6] }
  | _ => none }
def EngineChoosesWrongFalsely : Prop := engineChoosesRow.holds Tryz.pinned (OpenSpec.ofChange engineChoosesWrong)

/-- 'milestonelaw17.EngineKeeps': WHATEVER THE INPUT: true; the input reads as it did. -/
def engineKeepsSpec : ChangeSpec := { name := "engineKeeps", fn := fun _ => fun
  | [d1, d2, d3] => { results := [.lit (.bool true)], args := [d1, d2, d3] }
  | _ => none }
def engineKeepsRow : OpenClaim := { program := "ytngnbafididkcaagreat", sum := "3537f0163caaf4f7ec3399ef0d84a16f8eabb26007d0da536c167b1a7445549d", func := "milestone/milestonelaw17.EngineKeeps", spec := "engineKeeps", inPlace := ["slices.overlaps[milestone/source.entry]"], unfollowed := true, recurses := true, plainKeys := false, apart := false }
def EngineKeepsSaid : Prop := engineKeepsRow.holds Tryz.pinned (OpenSpec.ofChange engineKeepsSpec)

/-- ITS FALSE NEIGHBOUR: 'it returns false'. Refute it at one input. -/
def engineKeepsWrong : ChangeSpec := { name := "engineKeeps", fn := fun _ => fun
  | [d1, d2, d3] => { results := [.lit (.bool false)], args := [d1, d2, d3] }
  | _ => none }
def EngineKeepsWrongFalsely : Prop := engineKeepsRow.holds Tryz.pinned (OpenSpec.ofChange engineKeepsWrong)

/-- 'milestonelaw17.EngineSwitches': WHATEVER THE INPUT: true; the input reads as it did. -/
def engineSwitchesSpec : ChangeSpec := { name := "engineSwitches", fn := fun _ => fun
  | [d1, d2, d3, d4] => { results := [.lit (.bool true)], args := [d1, d2, d3, d4] }
  | _ => none }
def engineSwitchesRow : OpenClaim := { program := "ytngnbafididkcaagreat", sum := "3537f0163caaf4f7ec3399ef0d84a16f8eabb26007d0da536c167b1a7445549d", func := "milestone/milestonelaw17.EngineSwitches", spec := "engineSwitches", inPlace := ["slices.overlaps[milestone/source.entry]"], unfollowed := true, recurses := true, plainKeys := false, apart := false }
def EngineSwitchesSaid : Prop := engineSwitchesRow.holds Tryz.pinned (OpenSpec.ofChange engineSwitchesSpec)

/-- ITS FALSE NEIGHBOUR: 'it returns false'. Refute it at one input. -/
def engineSwitchesWrong : ChangeSpec := { name := "engineSwitches", fn := fun _ => fun
  | [d1, d2, d3, d4] => { results := [.lit (.bool false)], args := [d1, d2, d3, d4] }
  | _ => none }
def EngineSwitchesWrongFalsely : Prop := engineSwitchesRow.holds Tryz.pinned (OpenSpec.ofChange engineSwitchesWrong)

/-- 'milestonelaw17.EngineSinks': WHATEVER THE INPUT: true; the input reads as it did. -/
def engineSinksSpec : ChangeSpec := { name := "engineSinks", fn := fun _ => fun
  | [d] => { results := [.lit (.bool true)], args := [d] }
  | _ => none }
def engineSinksRow : OpenClaim := { program := "ytngnbafididkcaagreat", sum := "3537f0163caaf4f7ec3399ef0d84a16f8eabb26007d0da536c167b1a7445549d", func := "milestone/milestonelaw17.EngineSinks", spec := "engineSinks", inPlace := ["slices.overlaps[milestone/source.entry]"], unfollowed := true, recurses := true, plainKeys := false, apart := false }
def EngineSinksSaid : Prop := engineSinksRow.holds Tryz.pinned (OpenSpec.ofChange engineSinksSpec)

/-- ITS FALSE NEIGHBOUR: 'it returns false'. Refute it at one input. -/
def engineSinksWrong : ChangeSpec := { name := "engineSinks", fn := fun _ => fun
  | [d] => { results := [.lit (.bool false)], args := [d] }
  | _ => none }
def EngineSinksWrongFalsely : Prop := engineSinksRow.holds Tryz.pinned (OpenSpec.ofChange engineSinksWrong)

/-- 'milestonelaw17.EngineCounts': WHATEVER THE INPUT: true; the input reads as it did. -/
def engineCountsSpec : ChangeSpec := { name := "engineCounts", fn := fun _ => fun
  | [d1, d2, d3] => { results := [.lit (.bool true)], args := [d1, d2, d3] }
  | _ => none }
def engineCountsRow : OpenClaim := { program := "ytngnbafididkcaagreat", sum := "3537f0163caaf4f7ec3399ef0d84a16f8eabb26007d0da536c167b1a7445549d", func := "milestone/milestonelaw17.EngineCounts", spec := "engineCounts", inPlace := ["slices.overlaps[milestone/source.entry]"], unfollowed := true, recurses := true, plainKeys := false, apart := false }
def EngineCountsSaid : Prop := engineCountsRow.holds Tryz.pinned (OpenSpec.ofChange engineCountsSpec)

/-- ITS FALSE NEIGHBOUR: 'it returns false'. Refute it at one input. -/
def engineCountsWrong : ChangeSpec := { name := "engineCounts", fn := fun _ => fun
  | [d1, d2, d3] => { results := [.lit (.bool false)], args := [d1, d2, d3] }
  | _ => none }
def EngineCountsWrongFalsely : Prop := engineCountsRow.holds Tryz.pinned (OpenSpec.ofChange engineCountsWrong)

/-- 'milestonelaw17.EngineTells': WHATEVER THE INPUT: true; the input reads as it did. -/
def engineTellsSpec : ChangeSpec := { name := "engineTells", fn := fun _ => fun
  | [d1, d2, d3, d4, d5, d6] => { results := [.lit (.bool true)], args := [d1, d2, d3, d4, d5, d6] }
  | _ => none }
def engineTellsRow : OpenClaim := { program := "ytngnbafididkcaagreat", sum := "3537f0163caaf4f7ec3399ef0d84a16f8eabb26007d0da536c167b1a7445549d", func := "milestone/milestonelaw17.EngineTells", spec := "engineTells", inPlace := ["slices.overlaps[milestone/source.entry]"], unfollowed := true, recurses := true, plainKeys := false, apart := false }
def EngineTellsSaid : Prop := engineTellsRow.holds Tryz.pinned (OpenSpec.ofChange engineTellsSpec)

/-- ITS FALSE NEIGHBOUR: 'it returns false'. Refute it at one input. -/
def engineTellsWrong : ChangeSpec := { name := "engineTells", fn := fun _ => fun
  | [d1, d2, d3, d4, d5, d6] => { results := [.lit (.bool false)], args := [d1, d2, d3, d4, d5, d6] }
  | _ => none }
def EngineTellsWrongFalsely : Prop := engineTellsRow.holds Tryz.pinned (OpenSpec.ofChange engineTellsWrong)

/-- 'milestonelaw17.EngineAsks': WHATEVER THE INPUT: true; the input reads as it did. -/
def engineAsksSpec : ChangeSpec := { name := "engineAsks", fn := fun _ => fun
  | [d1, d2, d3, d4] => { results := [.lit (.bool true)], args := [d1, d2, d3, d4] }
  | _ => none }
def engineAsksRow : OpenClaim := { program := "ytngnbafididkcaagreat", sum := "3537f0163caaf4f7ec3399ef0d84a16f8eabb26007d0da536c167b1a7445549d", func := "milestone/milestonelaw17.EngineAsks", spec := "engineAsks", inPlace := ["slices.overlaps[milestone/source.entry]"], unfollowed := true, recurses := true, plainKeys := false, apart := false }
def EngineAsksSaid : Prop := engineAsksRow.holds Tryz.pinned (OpenSpec.ofChange engineAsksSpec)

/-- ITS FALSE NEIGHBOUR: 'it returns false'. Refute it at one input. -/
def engineAsksWrong : ChangeSpec := { name := "engineAsks", fn := fun _ => fun
  | [d1, d2, d3, d4] => { results := [.lit (.bool false)], args := [d1, d2, d3, d4] }
  | _ => none }
def EngineAsksWrongFalsely : Prop := engineAsksRow.holds Tryz.pinned (OpenSpec.ofChange engineAsksWrong)

/-- 'milestonelaw17.EngineHops': WHATEVER THE INPUT: true; the input reads as it did. -/
def engineHopsSpec : ChangeSpec := { name := "engineHops", fn := fun _ => fun
  | [d1, d2, d3] => { results := [.lit (.bool true)], args := [d1, d2, d3] }
  | _ => none }
def engineHopsRow : OpenClaim := { program := "ytngnbafididkcaagreat", sum := "3537f0163caaf4f7ec3399ef0d84a16f8eabb26007d0da536c167b1a7445549d", func := "milestone/milestonelaw17.EngineHops", spec := "engineHops", inPlace := ["slices.overlaps[milestone/source.entry]"], unfollowed := true, recurses := true, plainKeys := false, apart := false }
def EngineHopsSaid : Prop := engineHopsRow.holds Tryz.pinned (OpenSpec.ofChange engineHopsSpec)

/-- ITS FALSE NEIGHBOUR: 'it returns false'. Refute it at one input. -/
def engineHopsWrong : ChangeSpec := { name := "engineHops", fn := fun _ => fun
  | [d1, d2, d3] => { results := [.lit (.bool false)], args := [d1, d2, d3] }
  | _ => none }
def EngineHopsWrongFalsely : Prop := engineHopsRow.holds Tryz.pinned (OpenSpec.ofChange engineHopsWrong)

/-- 'milestonelaw17.EngineForgets': WHATEVER THE INPUT: true; the input reads as it did. -/
def engineForgetsSpec : ChangeSpec := { name := "engineForgets", fn := fun _ => fun
  | [d1, d2, d3] => { results := [.lit (.bool true)], args := [d1, d2, d3] }
  | _ => none }
def engineForgetsRow : OpenClaim := { program := "ytngnbafididkcaagreat", sum := "3537f0163caaf4f7ec3399ef0d84a16f8eabb26007d0da536c167b1a7445549d", func := "milestone/milestonelaw17.EngineForgets", spec := "engineForgets", inPlace := ["slices.overlaps[milestone/source.entry]"], unfollowed := true, recurses := true, plainKeys := false, apart := false }
def EngineForgetsSaid : Prop := engineForgetsRow.holds Tryz.pinned (OpenSpec.ofChange engineForgetsSpec)

/-- ITS FALSE NEIGHBOUR: 'it returns false'. Refute it at one input. -/
def engineForgetsWrong : ChangeSpec := { name := "engineForgets", fn := fun _ => fun
  | [d1, d2, d3] => { results := [.lit (.bool false)], args := [d1, d2, d3] }
  | _ => none }
def EngineForgetsWrongFalsely : Prop := engineForgetsRow.holds Tryz.pinned (OpenSpec.ofChange engineForgetsWrong)

/-- 'milestonelaw17.EngineBegins': WHATEVER THE INPUT: true; the input reads as it did. -/
def engineBeginsSpec : ChangeSpec := { name := "engineBegins", fn := fun _ => fun
  | [d1, d2, d3, d4] => { results := [.lit (.bool true)], args := [d1, d2, d3, d4] }
  | _ => none }
def engineBeginsRow : OpenClaim := { program := "ytngnbafididkcaagreat", sum := "3537f0163caaf4f7ec3399ef0d84a16f8eabb26007d0da536c167b1a7445549d", func := "milestone/milestonelaw17.EngineBegins", spec := "engineBegins", inPlace := ["slices.overlaps[milestone/source.entry]"], unfollowed := true, recurses := true, plainKeys := false, apart := false }
def EngineBeginsSaid : Prop := engineBeginsRow.holds Tryz.pinned (OpenSpec.ofChange engineBeginsSpec)

/-- ITS FALSE NEIGHBOUR: 'it returns false'. Refute it at one input. -/
def engineBeginsWrong : ChangeSpec := { name := "engineBegins", fn := fun _ => fun
  | [d1, d2, d3, d4] => { results := [.lit (.bool false)], args := [d1, d2, d3, d4] }
  | _ => none }
def EngineBeginsWrongFalsely : Prop := engineBeginsRow.holds Tryz.pinned (OpenSpec.ofChange engineBeginsWrong)

/- THE SECOND FORM. 'bulk': how many values and letters a reading holds, each counted each time it is reached (what is shared counts as often as it is met; a slice's spare places count too). A statement '..UptoSaid' is the law's where the arguments, and the package variables that the reading takes, are together of bulk at most 1048576: NARROWER than '..Said'. Prove '..Said' where nothing that the law and all that it calls make is longer than what came in: it says more and counts as full. Else prove '..UptoSaid'. A law counts once. -/
mutual
def uptoBulk {H : Type} : DataW H → Nat
  | .lit (.string bytes) => bytes.length + 1
  | .lit _ => 1
  | .nil => 1
  | .ptr d => uptoBulk d + 1
  | .slice elems spare => uptoBulkAll elems + uptoBulkAll spare + 1
  | .agg parts => uptoBulkAll parts + 1
  | .iface _ d => uptoBulk d + 1
  | .map entries => uptoBulkEntries entries + 1
  | .held _ => 1
def uptoBulkAll {H : Type} : List (DataW H) → Nat
  | [] => 0
  | d :: r => uptoBulk d + uptoBulkAll r
def uptoBulkEntries {H : Type} : List (Lit × DataW H) → Nat
  | [] => 0
  | x :: r => uptoBulkEntry x + uptoBulkEntries r
def uptoBulkEntry {H : Type} : Lit × DataW H → Nat
  | (.string bytes, d) => bytes.length + uptoBulk d + 1
  | (_, d) => uptoBulk d + 1
 end
def uptoSmall : (H : Type) → List (DataW H) → Bool := fun _ ds => decide (uptoBulkAll ds ≤ 1048576)
def OpenSpec.upto (s : _root_.Go.ChangeSpec) : _root_.Go.OpenSpec := { _root_.Go.OpenSpec.ofChange s with cond := some uptoSmall }

/-- 'milestonelaw17.EngineChooses', WHERE WHAT IT READS IS OF BULK AT MOST 1048576: true; the input reads as it did. -/
def engineChoosesUptoRow : OpenClaim := { program := "ytngnbafididkcaagreat", sum := "3537f0163caaf4f7ec3399ef0d84a16f8eabb26007d0da536c167b1a7445549d", func := "milestone/milestonelaw17.EngineChooses", spec := "engineChooses", inPlace := ["slices.overlaps[milestone/source.entry]"], unfollowed := true, recurses := true, plainKeys := false, apart := false, narrowed := true }
def EngineChoosesUptoSaid : Prop := engineChoosesUptoRow.holds Tryz.pinned (OpenSpec.upto engineChoosesSpec)

/-- 'milestonelaw17.EngineKeeps', WHERE WHAT IT READS IS OF BULK AT MOST 1048576: true; the input reads as it did. -/
def engineKeepsUptoRow : OpenClaim := { program := "ytngnbafididkcaagreat", sum := "3537f0163caaf4f7ec3399ef0d84a16f8eabb26007d0da536c167b1a7445549d", func := "milestone/milestonelaw17.EngineKeeps", spec := "engineKeeps", inPlace := ["slices.overlaps[milestone/source.entry]"], unfollowed := true, recurses := true, plainKeys := false, apart := false, narrowed := true }
def EngineKeepsUptoSaid : Prop := engineKeepsUptoRow.holds Tryz.pinned (OpenSpec.upto engineKeepsSpec)

/-- 'milestonelaw17.EngineSwitches', WHERE WHAT IT READS IS OF BULK AT MOST 1048576: true; the input reads as it did. -/
def engineSwitchesUptoRow : OpenClaim := { program := "ytngnbafididkcaagreat", sum := "3537f0163caaf4f7ec3399ef0d84a16f8eabb26007d0da536c167b1a7445549d", func := "milestone/milestonelaw17.EngineSwitches", spec := "engineSwitches", inPlace := ["slices.overlaps[milestone/source.entry]"], unfollowed := true, recurses := true, plainKeys := false, apart := false, narrowed := true }
def EngineSwitchesUptoSaid : Prop := engineSwitchesUptoRow.holds Tryz.pinned (OpenSpec.upto engineSwitchesSpec)

/-- 'milestonelaw17.EngineSinks', WHERE WHAT IT READS IS OF BULK AT MOST 1048576: true; the input reads as it did. -/
def engineSinksUptoRow : OpenClaim := { program := "ytngnbafididkcaagreat", sum := "3537f0163caaf4f7ec3399ef0d84a16f8eabb26007d0da536c167b1a7445549d", func := "milestone/milestonelaw17.EngineSinks", spec := "engineSinks", inPlace := ["slices.overlaps[milestone/source.entry]"], unfollowed := true, recurses := true, plainKeys := false, apart := false, narrowed := true }
def EngineSinksUptoSaid : Prop := engineSinksUptoRow.holds Tryz.pinned (OpenSpec.upto engineSinksSpec)

/-- 'milestonelaw17.EngineCounts', WHERE WHAT IT READS IS OF BULK AT MOST 1048576: true; the input reads as it did. -/
def engineCountsUptoRow : OpenClaim := { program := "ytngnbafididkcaagreat", sum := "3537f0163caaf4f7ec3399ef0d84a16f8eabb26007d0da536c167b1a7445549d", func := "milestone/milestonelaw17.EngineCounts", spec := "engineCounts", inPlace := ["slices.overlaps[milestone/source.entry]"], unfollowed := true, recurses := true, plainKeys := false, apart := false, narrowed := true }
def EngineCountsUptoSaid : Prop := engineCountsUptoRow.holds Tryz.pinned (OpenSpec.upto engineCountsSpec)

/-- 'milestonelaw17.EngineTells', WHERE WHAT IT READS IS OF BULK AT MOST 1048576: true; the input reads as it did. -/
def engineTellsUptoRow : OpenClaim := { program := "ytngnbafididkcaagreat", sum := "3537f0163caaf4f7ec3399ef0d84a16f8eabb26007d0da536c167b1a7445549d", func := "milestone/milestonelaw17.EngineTells", spec := "engineTells", inPlace := ["slices.overlaps[milestone/source.entry]"], unfollowed := true, recurses := true, plainKeys := false, apart := false, narrowed := true }
def EngineTellsUptoSaid : Prop := engineTellsUptoRow.holds Tryz.pinned (OpenSpec.upto engineTellsSpec)

/-- 'milestonelaw17.EngineAsks', WHERE WHAT IT READS IS OF BULK AT MOST 1048576: true; the input reads as it did. -/
def engineAsksUptoRow : OpenClaim := { program := "ytngnbafididkcaagreat", sum := "3537f0163caaf4f7ec3399ef0d84a16f8eabb26007d0da536c167b1a7445549d", func := "milestone/milestonelaw17.EngineAsks", spec := "engineAsks", inPlace := ["slices.overlaps[milestone/source.entry]"], unfollowed := true, recurses := true, plainKeys := false, apart := false, narrowed := true }
def EngineAsksUptoSaid : Prop := engineAsksUptoRow.holds Tryz.pinned (OpenSpec.upto engineAsksSpec)

/-- 'milestonelaw17.EngineHops', WHERE WHAT IT READS IS OF BULK AT MOST 1048576: true; the input reads as it did. -/
def engineHopsUptoRow : OpenClaim := { program := "ytngnbafididkcaagreat", sum := "3537f0163caaf4f7ec3399ef0d84a16f8eabb26007d0da536c167b1a7445549d", func := "milestone/milestonelaw17.EngineHops", spec := "engineHops", inPlace := ["slices.overlaps[milestone/source.entry]"], unfollowed := true, recurses := true, plainKeys := false, apart := false, narrowed := true }
def EngineHopsUptoSaid : Prop := engineHopsUptoRow.holds Tryz.pinned (OpenSpec.upto engineHopsSpec)

/-- 'milestonelaw17.EngineForgets', WHERE WHAT IT READS IS OF BULK AT MOST 1048576: true; the input reads as it did. -/
def engineForgetsUptoRow : OpenClaim := { program := "ytngnbafididkcaagreat", sum := "3537f0163caaf4f7ec3399ef0d84a16f8eabb26007d0da536c167b1a7445549d", func := "milestone/milestonelaw17.EngineForgets", spec := "engineForgets", inPlace := ["slices.overlaps[milestone/source.entry]"], unfollowed := true, recurses := true, plainKeys := false, apart := false, narrowed := true }
def EngineForgetsUptoSaid : Prop := engineForgetsUptoRow.holds Tryz.pinned (OpenSpec.upto engineForgetsSpec)

/-- 'milestonelaw17.EngineBegins', WHERE WHAT IT READS IS OF BULK AT MOST 1048576: true; the input reads as it did. -/
def engineBeginsUptoRow : OpenClaim := { program := "ytngnbafididkcaagreat", sum := "3537f0163caaf4f7ec3399ef0d84a16f8eabb26007d0da536c167b1a7445549d", func := "milestone/milestonelaw17.EngineBegins", spec := "engineBegins", inPlace := ["slices.overlaps[milestone/source.entry]"], unfollowed := true, recurses := true, plainKeys := false, apart := false, narrowed := true }
def EngineBeginsUptoSaid : Prop := engineBeginsUptoRow.holds Tryz.pinned (OpenSpec.upto engineBeginsSpec)

end Rows
end Go.Proofs.YtngnbafididkcaaGreat
