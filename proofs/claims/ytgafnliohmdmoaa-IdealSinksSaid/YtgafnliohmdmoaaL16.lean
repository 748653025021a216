/- OUR OWN LOGIC OVER THE KIT'S. 16: functions as values. Nothing of the program stands here. -/
import Derived.Test.YtgafnliohmdmoaaL15
namespace Go.Proofs.Ytgafnliohmdmoaa
open Go.RowKit

section
variable {P : Program} {lo : Nat} {H : AH} {nx : Nat} {K : Value → AH → Nat → Prop}
theorem makeFV_eq (fn : Fn) (a b : Array Value) : makeFV fn a b = some (.func fn a b) := (rfl)
/-- A call of a function value that holds what it captured. -/
theorem callQ_clo (n : Nat) (c l : List Value) : callQ P lo (.func (.func n) #[] c.toArray) l K H nx = (if fnOk P n = true then ACalls P lo n (l ++ c).toArray H nx K else externQ P lo n (l ++ c).toArray K H nx) := by
  show (if fnOk P n = true then ACalls P lo n ((#[] ++ l.toArray) ++ c.toArray) H nx K else externQ P lo n ((#[] ++ l.toArray) ++ c.toArray) K H nx) = _
  rw [Array.empty_append, List.append_toArray]
end

attribute [go_sem] makeFV_eq callQ_clo List.cons_append List.nil_append List.append_nil
end Go.Proofs.Ytgafnliohmdmoaa
