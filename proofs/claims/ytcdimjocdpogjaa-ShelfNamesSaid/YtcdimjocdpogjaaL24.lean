/- OUR OWN LOGIC OVER THE KIT'S. 24: min and max of two integers; maps compared with nil. Nothing of the program stands here. -/
import Derived.Test.YtcdimjocdpogjaaL23
namespace Go.Proofs.Ytcdimjocdpogjaa
open Go.RowKit
theorem maxV_int (P : Program) (H : AH) (ts : Array TypeId) (t : TypeId) (k k' : IntKind) (a b : Int) : maxV P H ts t #[.int k a, .int k' b] = some (.int k (max a b)) := by
  show some (Value.int k (if b > a then b else a)) = _
  congr 2
  split <;> omega
theorem minV_int (P : Program) (H : AH) (ts : Array TypeId) (t : TypeId) (k k' : IntKind) (a b : Int) : minV P H ts t #[.int k a, .int k' b] = some (.int k (min a b)) := by
  show some (Value.int k (if b < a then b else a)) = _
  congr 2
  split <;> omega
section
variable {P : Program} {lo : Nat} {ops : Array Oper} {H0 : AH} {nx0 i : Nat} {rest : List Nat} {dst : Option Tmp} {type : TypeId} {pos : String} {after : Array Edge} {g : Option (Nat × Bool)} {env : Env} {H : AH} {nx : Nat} {K : Env → AH → Nat → Prop}
theorem dGo_min (args : Array Operand) (ts : Array TypeId) : dGo P lo ops H0 nx0 i rest { dst, op := .call { callee := .builtin .min, args, argTypes := ts }, type, pos, after, guard := g } env H nx K = onA (((evs env args.toList).bind fun l => minV P AH.empty ts type l.toArray)) (drawK P lo ops H0 nx0 rest env dst H nx K) := yq AH.empty _
theorem dGo_max (args : Array Operand) (ts : Array TypeId) : dGo P lo ops H0 nx0 i rest { dst, op := .call { callee := .builtin .max, args, argTypes := ts }, type, pos, after, guard := g } env H nx K = onA (((evs env args.toList).bind fun l => maxV P AH.empty ts type l.toArray)) (drawK P lo ops H0 nx0 rest env dst H nx K) := yq AH.empty _
end
attribute [go_sem] maxV_int minV_int dGo_min dGo_max
end Go.Proofs.Ytcdimjocdpogjaa
