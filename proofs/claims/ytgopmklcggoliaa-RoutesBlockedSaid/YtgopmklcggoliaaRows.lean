/-
  No cell of these rows narrows 'for every input' (looked for: loops, veiled, ifaces, maps, wideKeys, modest, calm, conditions, laid).
  DERIVED. THE GIVEN ROWS OF THIS SEAT. 4 by the template 'for every input the law returns true; each argument reads behind the call as it read before'; 0 by the template 'total and deterministic' (their statements: YtgopmklcggoliaaTotals.lean).
  GIVEN WITH THE SEED: the statements are not yours to turn. If you find one false, say at which input.
  Laid BY PROGRAM, IN A SANDBOX (cutbox-rows.mjs): the forced cells as the released guide's own fill.sh prints them over the translation 5a554b11ecc0dd21… (all of the seat's roots in one cut). By AI agents, Wed Nov 11 2026. No macro, syntax, notation, axiom, sorry.
-/
import Derived.Test.YtgopmklcggoliaaChecked
import GoSem.Claim
import GoSem.ClaimJoined
import GoSem.ClaimMapViews
import Derived.JoinedTies
import Derived.KernelRfl
namespace Go.Proofs.Ytgopmklcggoliaa
/- THE CELL 'sum', in the pinned program and in every row, IS THE sha256 OF THE DUMP (.gsa) THAT YtgopmklcggoliaaProg.lean LOADS. Nothing in Lean hashes anything: it is a label: what it is worth is what the hold of that sum in a sandbox is worth. -/
noncomputable def Try.pinned : Pinned := { name := "ytgopmklcggoliaa", sum := "5a554b11ecc0dd21ca7e28af96f86c171ec589e6475f47930de683680087e23d", checked := Try.checked }
namespace Rows
def none {H : Type} : Left H := { results := [], args := [] }

/-- 'milestonelaw16.RoutesTell': WHATEVER THE INPUT: true; the input reads as it did. -/
def routesTellSpec : ChangeSpec := { name := "routesTell", fn := fun _ => fun
  | [d] => { results := [.lit (.bool true)], args := [d] }
  | _ => none }
def routesTellRow : OpenClaim := { program := "ytgopmklcggoliaa", sum := "5a554b11ecc0dd21ca7e28af96f86c171ec589e6475f47930de683680087e23d", func := "milestone/milestonelaw16.RoutesTell", spec := "routesTell", unfollowed := true, recurses := true, plainKeys := false, apart := false }
def RoutesTellSaid : Prop := routesTellRow.holds Try.pinned (OpenSpec.ofChange routesTellSpec)

/-- ITS FALSE NEIGHBOUR: 'it returns false'. Refute it at one input. -/
def routesTellWrong : ChangeSpec := { name := "routesTell", fn := fun _ => fun
  | [d] => { results := [.lit (.bool false)], args := [d] }
  | _ => none }
def RoutesTellWrongFalsely : Prop := routesTellRow.holds Try.pinned (OpenSpec.ofChange routesTellWrong)

/-- 'milestonelaw16.RoutesSelect': WHATEVER THE INPUT: true; the input reads as it did. -/
def routesSelectSpec : ChangeSpec := { name := "routesSelect", fn := fun _ => fun
  | [d1, d2] => { results := [.lit (.bool true)], args := [d1, d2] }
  | _ => none }
def routesSelectRow : OpenClaim := { program := "ytgopmklcggoliaa", sum := "5a554b11ecc0dd21ca7e28af96f86c171ec589e6475f47930de683680087e23d", func := "milestone/milestonelaw16.RoutesSelect", spec := "routesSelect", inPlace := ["slices.overlaps[milestone/source.entry]"], unfollowed := true, recurses := true, plainKeys := false, apart := false }
def RoutesSelectSaid : Prop := routesSelectRow.holds Try.pinned (OpenSpec.ofChange routesSelectSpec)

/-- ITS FALSE NEIGHBOUR: 'it returns false'. Refute it at one input. -/
def routesSelectWrong : ChangeSpec := { name := "routesSelect", fn := fun _ => fun
  | [d1, d2] => { results := [.lit (.bool false)], args := [d1, d2] }
  | _ => none }
def RoutesSelectWrongFalsely : Prop := routesSelectRow.holds Try.pinned (OpenSpec.ofChange routesSelectWrong)

/-- 'milestonelaw16.RoutesNearer': WHATEVER THE INPUT: true; the input reads as it did. -/
def routesNearerSpec : ChangeSpec := { name := "routesNearer", fn := fun _ => fun
  | [d1, d2] => { results := [.lit (.bool true)], args := [d1, d2] }
  | _ => none }
def routesNearerRow : OpenClaim := { program := "ytgopmklcggoliaa", sum := "5a554b11ecc0dd21ca7e28af96f86c171ec589e6475f47930de683680087e23d", func := "milestone/milestonelaw16.RoutesNearer", spec := "routesNearer", inPlace := ["slices.overlaps[milestone/source.entry]"], unfollowed := true, recurses := true, plainKeys := false, apart := false }
def RoutesNearerSaid : Prop := routesNearerRow.holds Try.pinned (OpenSpec.ofChange routesNearerSpec)

/-- ITS FALSE NEIGHBOUR: 'it returns false'. Refute it at one input. -/
def routesNearerWrong : ChangeSpec := { name := "routesNearer", fn := fun _ => fun
  | [d1, d2] => { results := [.lit (.bool false)], args := [d1, d2] }
  | _ => none }
def RoutesNearerWrongFalsely : Prop := routesNearerRow.holds Try.pinned (OpenSpec.ofChange routesNearerWrong)

/-- 'milestonelaw16.RoutesBlocked': WHATEVER THE INPUT: true; the input reads as it did. -/
def routesBlockedSpec : ChangeSpec := { name := "routesBlocked", fn := fun _ => fun
  | [d1, d2] => { results := [.lit (.bool true)], args := [d1, d2] }
  | _ => none }
def routesBlockedRow : OpenClaim := { program := "ytgopmklcggoliaa", sum := "5a554b11ecc0dd21ca7e28af96f86c171ec589e6475f47930de683680087e23d", func := "milestone/milestonelaw16.RoutesBlocked", spec := "routesBlocked", inPlace := ["slices.overlaps[milestone/source.entry]"], unfollowed := true, recurses := true, plainKeys := false, apart := false }
def RoutesBlockedSaid : Prop := routesBlockedRow.holds Try.pinned (OpenSpec.ofChange routesBlockedSpec)

/-- ITS FALSE NEIGHBOUR: 'it returns false'. Refute it at one input. -/
def routesBlockedWrong : ChangeSpec := { name := "routesBlocked", fn := fun _ => fun
  | [d1, d2] => { results := [.lit (.bool false)], args := [d1, d2] }
  | _ => none }
def RoutesBlockedWrongFalsely : Prop := routesBlockedRow.holds Try.pinned (OpenSpec.ofChange routesBlockedWrong)

/- THE SECOND FORM. 'bulk': how many values and letters a reading holds, each counted each time it is reached (what is shared counts as often as it is met; a slice's spare places count too). A statement '..UptoSaid' is the law's where the arguments, and the package variables that the reading takes, are together of bulk at most 1048576: NARROWER than '..Said'. Prove '..Said' where nothing that the law and all that it calls make is longer than what came in: it says more and counts as full. Else prove '..UptoSaid'. A law counts once. -/
mutual
def uptoBulk {H : Type} : DataW H → Nat
  | .lit (.string bytes) => bytes.length + 1
  | .lit _ => 1
  | .nil => 1
  | .ptr d => uptoBulk d + 1
  | .slice elems spare => uptoBulkAll elems + uptoBulkAll spare + 1
  | .agg parts => uptoBulkAll parts + 1
  | .iface _ d => uptoBulk d + 1
  | .map entries => uptoBulkEntries entries + 1
  | .held _ => 1
def uptoBulkAll {H : Type} : List (DataW H) → Nat
  | [] => 0
  | d :: r => uptoBulk d + uptoBulkAll r
def uptoBulkEntries {H : Type} : List (Lit × DataW H) → Nat
  | [] => 0
  | x :: r => uptoBulkEntry x + uptoBulkEntries r
def uptoBulkEntry {H : Type} : Lit × DataW H → Nat
  | (.string bytes, d) => bytes.length + uptoBulk d + 1
  | (_, d) => uptoBulk d + 1
 end
def uptoSmall : (H : Type) → List (DataW H) → Bool := fun _ ds => decide (uptoBulkAll ds ≤ 1048576)
def OpenSpec.upto (s : _root_.Go.ChangeSpec) : _root_.Go.OpenSpec := { _root_.Go.OpenSpec.ofChange s with cond := some uptoSmall }

/-- 'milestonelaw16.RoutesTell', WHERE WHAT IT READS IS OF BULK AT MOST 1048576: true; the input reads as it did. -/
def routesTellUptoRow : OpenClaim := { program := "ytgopmklcggoliaa", sum := "5a554b11ecc0dd21ca7e28af96f86c171ec589e6475f47930de683680087e23d", func := "milestone/milestonelaw16.RoutesTell", spec := "routesTell", unfollowed := true, recurses := true, plainKeys := false, apart := false, narrowed := true }
def RoutesTellUptoSaid : Prop := routesTellUptoRow.holds Try.pinned (OpenSpec.upto routesTellSpec)

/-- 'milestonelaw16.RoutesSelect', WHERE WHAT IT READS IS OF BULK AT MOST 1048576: true; the input reads as it did. -/
def routesSelectUptoRow : OpenClaim := { program := "ytgopmklcggoliaa", sum := "5a554b11ecc0dd21ca7e28af96f86c171ec589e6475f47930de683680087e23d", func := "milestone/milestonelaw16.RoutesSelect", spec := "routesSelect", inPlace := ["slices.overlaps[milestone/source.entry]"], unfollowed := true, recurses := true, plainKeys := false, apart := false, narrowed := true }
def RoutesSelectUptoSaid : Prop := routesSelectUptoRow.holds Try.pinned (OpenSpec.upto routesSelectSpec)

/-- 'milestonelaw16.RoutesNearer', WHERE WHAT IT READS IS OF BULK AT MOST 1048576: true; the input reads as it did. -/
def routesNearerUptoRow : OpenClaim := { program := "ytgopmklcggoliaa", sum := "5a554b11ecc0dd21ca7e28af96f86c171ec589e6475f47930de683680087e23d", func := "milestone/milestonelaw16.RoutesNearer", spec := "routesNearer", inPlace := ["slices.overlaps[milestone/source.entry]"], unfollowed := true, recurses := true, plainKeys := false, apart := false, narrowed := true }
def RoutesNearerUptoSaid : Prop := routesNearerUptoRow.holds Try.pinned (OpenSpec.upto routesNearerSpec)

/-- 'milestonelaw16.RoutesBlocked', WHERE WHAT IT READS IS OF BULK AT MOST 1048576: true; the input reads as it did. -/
def routesBlockedUptoRow : OpenClaim := { program := "ytgopmklcggoliaa", sum := "5a554b11ecc0dd21ca7e28af96f86c171ec589e6475f47930de683680087e23d", func := "milestone/milestonelaw16.RoutesBlocked", spec := "routesBlocked", inPlace := ["slices.overlaps[milestone/source.entry]"], unfollowed := true, recurses := true, plainKeys := false, apart := false, narrowed := true }
def RoutesBlockedUptoSaid : Prop := routesBlockedUptoRow.holds Try.pinned (OpenSpec.upto routesBlockedSpec)

end Rows
end Go.Proofs.Ytgopmklcggoliaa
