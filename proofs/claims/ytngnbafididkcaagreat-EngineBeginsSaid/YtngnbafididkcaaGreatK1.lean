/- Parts of a function's code, by a path. -/
import Derived.Test.YtngnbafididkcaaGreatFacts
namespace Go.Proofs.YtngnbafididkcaaGreat
open Go.RowKit

inductive Stp where
  | H | T | I | C | P
def codeAt : List Stp → Code → Code
  | [], c => c
  | .H :: r, .seq a _ => codeAt r a
  | .T :: r, .seq _ b => codeAt r b
  | .I :: r, .block _ b => codeAt r b
  | .I :: r, .loop b => codeAt r b
  | .C :: r, .cond _ a _ => codeAt r a
  | .P :: r, .cond _ _ b => codeAt r b
  | _ :: _, c => c
theorem codeAt_nil (c : Code) : codeAt [] c = c := rfl
theorem codeAt_H (r : List Stp) (a b : Code) : codeAt (.H :: r) (.seq a b) = codeAt r a := rfl
theorem codeAt_T (r : List Stp) (a b : Code) : codeAt (.T :: r) (.seq a b) = codeAt r b := rfl
theorem codeAt_I (r : List Stp) (n : Nat) (b : Code) : codeAt (.I :: r) (.block n b) = codeAt r b := rfl
theorem codeAt_L (r : List Stp) (b : Code) : codeAt (.I :: r) (.loop b) = codeAt r b := rfl
theorem codeAt_C (r : List Stp) (c : Operand) (a b : Code) : codeAt (.C :: r) (.cond c a b) = codeAt r a := rfl
theorem codeAt_P (r : List Stp) (c : Operand) (a b : Code) : codeAt (.P :: r) (.cond c a b) = codeAt r b := rfl
end Go.Proofs.YtngnbafididkcaaGreat
