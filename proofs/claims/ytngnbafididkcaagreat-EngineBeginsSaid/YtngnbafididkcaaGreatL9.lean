/- OUR OWN LOGIC OVER THE KIT'S. 7: the rules by which one goes through a body: equations on what each operation yields. Nothing of the program stands here. OUR OWN LOGIC OVER THE KIT'S. 8: the rules by which one goes through a body: codes, regions, operations, ends. Nothing of the program stands here. OUR OWN LOGIC OVER THE KIT'S. 9: what writes, makes memory, cuts, converts. Nothing of the program stands here. -/
import Derived.Test.YtngnbafididkcaaGreatL6
section
namespace Go.Proofs.YtngnbafididkcaaGreat
open Go.RowKit

/-! ### What types are like -/
def isAggT (P : Program) (t : TypeId) : Option Bool := (P.underlying t).map fun | .struct _ | .array _ _ => true | _ => false
def szT (P : Program) (t : TypeId) : Option Nat := (P.info? t).map (·.size)
def bytesT (P : Program) (t : TypeId) : Option Nat := (P.info? t).map (·.bytes)
def zeroT (P : Program) (t : TypeId) : Option Value := (P.info? t).bind (·.zero)
/-- A field: whether it is an aggregate, how many cells it has, where it begins. -/
def fldT (P : Program) (s : TypeId) (f : Nat) : Option (Bool × Nat × Nat) := match P.underlying s with
  | some (.struct fs) => match fs[f]? with
    | some fd => match isAggT P fd.type, szT P fd.type with
      | some a, some n => some (a, n, fd.offset)
      | _, _ => none
    | none => none
  | _ => none
/-- A slice's element: whether it is an aggregate, how many cells. -/
def slT (P : Program) (t : TypeId) : Option (TypeId × Nat) := match P.underlying t with
  | some (.slice e) => (szT P e).map fun n => (e, n)
  | _ => none
def arrT (P : Program) (t : TypeId) : Option (Nat × Bool × Nat) := match P.underlying t with
  | some (.array n e) => match isAggT P e, szT P e with
    | some a, some k => some (n, a, k)
    | _, _ => none
  | _ => none
def strT (P : Program) (t : TypeId) : Bool := match P.underlying t with | some .string => true | _ => false
def intT (P : Program) (t : TypeId) : Option IntKind := match P.underlying t with | some (.int k) => some k | _ => none

section
variable {P : Program} {H : AH}

theorem peek_pure {α : Type} (a : α) : peek P H (pure a : Sem α) = some a := (rfl)
theorem peek_then {α β : Type} (s : Sem α) (f : α → Sem β) : peek P H (s >>= f) = (peek P H s).bind fun a => peek P H (f a) := peek_bind P H s f
theorem peek_fmap {α β : Type} (s : Sem α) (f : α → β) : peek P H (f <$> s) = (peek P H s).map f := by
  show peek P H (s.bind fun a => .pure (f a)) = _
  rw [peek_bind]
  cases peek P H s <;> rfl
theorem peek_program : peek P H program = some P := (rfl)
theorem peek_underlying (t : TypeId) : peek P H (underlying t) = P.underlying t := by
  unfold underlying
  rw [peek_then, peek_program]
  simp only [Option.bind_some]
  cases P.underlying t <;> rfl
theorem peek_typeInfo (t : TypeId) : peek P H (typeInfo t) = P.info? t := by
  unfold typeInfo
  rw [peek_then, peek_program]
  simp only [Option.bind_some]
  cases P.info? t <;> rfl
theorem peek_sizeOf (t : TypeId) : peek P H (sizeOf t) = szT P t := by
  unfold sizeOf szT
  rw [peek_then, peek_typeInfo]
  cases P.info? t <;> rfl
theorem peek_isAgg (t : TypeId) : peek P H (isAgg t) = isAggT P t := by
  unfold isAgg isAggT
  rw [peek_then, peek_underlying]
  cases h : P.underlying t with
  | none => rfl
  | some d => cases d <;> rfl
theorem peek_load (b o : Nat) : peek P H (load ⟨b, o, none⟩) = H.c b o := by
  unfold load
  simp only [peek, Option.isSome_none, Bool.false_eq_true, if_false]
  cases H.c b o <;> rfl

theorem add_none (b o n : Nat) : (⟨b, o, none⟩ : Addr).add n = ⟨b, o + n, none⟩ := by unfold Addr.add; split <;> simp_all

/-- n cells, one behind the other. -/
def loadN (H : AH) (b : Nat) : Nat → Nat → Option (List Value)
  | _, 0 => some []
  | o, n + 1 => (H.c b o).bind fun v => (loadN H b (o + 1) n).bind fun l => some (v :: l)

theorem peek_loadCellsFrom (b o : Nat) : ∀ (n i : Nat) (acc : Array Value), peek P H (loadCellsFrom ⟨b, o, none⟩ i n acc) = (loadN H b (o + i) n).map fun l => acc ++ l.toArray
  | 0, i, acc => by simp [loadCellsFrom, loadN, peek_pure]
  | n + 1, i, acc => by
    unfold loadCellsFrom
    rw [peek_then, add_none, peek_load]
    simp only [loadN]
    cases h : H.c b (o + i) with
    | none => rfl
    | some v =>
      simp only [Option.bind_some]
      rw [peek_loadCellsFrom b o n (i + 1) (acc.push v), show o + (i + 1) = o + i + 1 by omega]
      cases loadN H b (o + i + 1) n with
      | none => rfl
      | some l => simp

theorem loadV_eq (t : TypeId) (b o : Nat) : loadV P H t (.pointer (some ⟨b, o, none⟩)) = match isAggT P t with
    | some false => H.c b o
    | some true => (szT P t).bind fun n => (loadN H b o n).map fun l => .agg l.toArray
    | none => none := by
  unfold loadV valOf Instr.loadAt
  rw [peek_then]
  simp only [Instr.sureAddr, peek_pure, Option.bind_some]
  unfold loadVar
  rw [peek_then, peek_isAgg]
  cases h : isAggT P t with
  | none => rfl
  | some a =>
    cases a with
    | false => simp only [Option.bind_some, Bool.false_eq_true, if_false]; exact peek_load b o
    | true =>
      simp only [Option.bind_some, if_true]
      rw [peek_then, peek_sizeOf]
      cases szT P t with
      | none => rfl
      | some n =>
        simp only [Option.bind_some]
        rw [peek_then]
        unfold loadCells
        rw [peek_loadCellsFrom, Nat.add_zero]
        cases loadN H b o n with
        | none => rfl
        | some l => simp [peek_pure]

theorem loadN_zero (b o : Nat) : loadN H b o 0 = some [] := (rfl)
theorem loadN_succ (b o n : Nat) : loadN H b o (n + 1) = (H.c b o).bind fun v => (loadN H b (o + 1) n).bind fun l => some (v :: l) := (rfl)

theorem fieldAV_eq (s : TypeId) (f : Nat) (b o : Nat) (a : Bool) (n k : Nat) (h : fldT P s f = some (a, n + 1, k)) : fieldAV P H s f (.pointer (some ⟨b, o, none⟩)) = some (.pointer (some ⟨b, o + k, none⟩)) := by
  unfold fldT at h
  cases hu : P.underlying s with
  | none => rw [hu] at h; cases h
  | some d =>
    rw [hu] at h
    cases d <;> simp only [reduceCtorEq] at h
    rename_i fs
    cases hf : fs[f]? with
    | none => rw [hf] at h; cases h
    | some fd =>
      rw [hf] at h
      simp only at h
      split at h
      · rename_i a' n' ha hn
        simp only [Option.some.injEq, Prod.mk.injEq] at h
        obtain ⟨rfl, rfl, rfl⟩ := h
        unfold fieldAV valOf Instr.fieldAt
        rw [peek_then, peek_underlying, hu]
        simp only [Option.bind_some, hf]
        rw [peek_then]
        simp only [Instr.sureAddr, peek_pure, Option.bind_some]
        rw [peek_then]
        unfold fieldPlace
        rw [peek_then, peek_sizeOf, hn]
        simp [peek_pure, add_none]
      · cases h

theorem indexAV_slice (t e : TypeId) (n k b o c : Nat) (kk : IntKind) (i : Int) (h : slT P t = some (e, k)) (h0 : 0 ≤ i) (h1 : i < n) :
    indexAV P H t (.slice (some ⟨b, o, none⟩) n c) (.int kk i) = some (.pointer (some ⟨b, o + i.toNat * k, none⟩)) := by
  unfold slT at h
  cases hu : P.underlying t with
  | none => rw [hu] at h; cases h
  | some d =>
    rw [hu] at h
    cases d <;> simp only [reduceCtorEq] at h
    rename_i e'
    simp only [Option.map_eq_some_iff, Prod.mk.injEq] at h
    obtain ⟨k', hk, rfl, rfl⟩ := h
    unfold indexAV valOf Instr.indexAt
    simp only [peek_then, peek_pure, peek_underlying, hu, Option.bind_some, asIntOf, h0, h1, and_self, if_true, peek_sizeOf, hk, add_none]

theorem indexAV_array (t : TypeId) (n k b o : Nat) (a : Bool) (kk : IntKind) (i : Int) (h : arrT P t = some (n, a, k)) (h0 : 0 ≤ i) (h1 : i < n) :
    indexAV P H t (.pointer (some ⟨b, o, none⟩)) (.int kk i) = some (.pointer (some ⟨b, o + i.toNat * k, none⟩)) := by
  unfold arrT at h
  cases hu : P.underlying t with
  | none => rw [hu] at h; cases h
  | some d =>
    rw [hu] at h
    cases d <;> simp only [reduceCtorEq] at h
    rename_i n' e'
    split at h
    · rename_i a' k' ha hk
      simp only [Option.some.injEq, Prod.mk.injEq] at h
      obtain ⟨rfl, rfl, rfl⟩ := h
      unfold indexAV valOf Instr.indexAt
      simp only [peek_then, peek_pure, peek_underlying, hu, Option.bind_some, asIntOf, Instr.sureAddr, h0, h1, and_self, if_true, peek_sizeOf, hk, add_none]
    · cases h

theorem extractV_eq (vs : Array Value) (i : Nat) : extractV P H (.tuple vs) i = vs[i]? := by
  unfold extractV valOf Instr.extract
  cases h : vs[i]? <;> simp [h, peek_pure, stuck, peek]

theorem lenV_slice (t e : TypeId) (ty : TypeId) (k : Nat) (a : Option Addr) (n c : Nat) (h : slT P t = some (e, k)) : lenV P H #[t] ty #[.slice a n c] = some (.int .i64 n) := by
  unfold slT at h
  cases hu : P.underlying t with
  | none => rw [hu] at h; cases h
  | some d =>
    rw [hu] at h
    cases d <;> simp only [reduceCtorEq] at h
    unfold lenV valOf Builtin.len_
    simp only [List.getElem?_toArray, List.getElem?_cons_zero]
    rw [peek_then, peek_underlying, hu]
    rfl

theorem lenV_string (t : TypeId) (ty : TypeId) (s : ByteArray) (h : strT P t = true) : lenV P H #[t] ty #[.string s] = some (.int .i64 s.size) := by
  unfold strT at h
  cases hu : P.underlying t with
  | none => rw [hu] at h; cases h
  | some d =>
    rw [hu] at h
    cases d <;> simp only [reduceCtorEq] at h
    unfold lenV valOf Builtin.len_
    simp only [List.getElem?_toArray, List.getElem?_cons_zero]
    rw [peek_then, peek_underlying, hu]
    rfl

/-! ### Arithmetic and comparisons -/
theorem bin_int (op : BinOp) (t : TypeId) (x y : Operand) (k : IntKind) (a b : Int) : binV P H op t x y (.int k a) (.int k b) = peek P H (binOp op t (.int k a) (.int k b)) := by
  unfold binV valOf
  rw [peek_then]
  have : peek P H (eqGuard op t x y (.int k a) (.int k b)) = some () := by
    unfold eqGuard
    cases op <;> rfl
  rw [this]; rfl

theorem binV_add (t : TypeId) (x y : Operand) (k : IntKind) (a b : Int) : binV P H .add t x y (.int k a) (.int k b) = some (.int k (k.wrap (a + b))) := by rw [bin_int]; simp [binOp, Op.intArith, peek_pure]
theorem binV_sub (t : TypeId) (x y : Operand) (k : IntKind) (a b : Int) : binV P H .sub t x y (.int k a) (.int k b) = some (.int k (k.wrap (a - b))) := by rw [bin_int]; simp [binOp, Op.intArith, peek_pure]
theorem binV_mul (t : TypeId) (x y : Operand) (k : IntKind) (a b : Int) : binV P H .mul t x y (.int k a) (.int k b) = some (.int k (k.wrap (a * b))) := by rw [bin_int]; simp [binOp, Op.intArith, peek_pure]
theorem binV_quo (t : TypeId) (x y : Operand) (k : IntKind) (a b : Int) (hb : b ≠ 0) : binV P H .quo t x y (.int k a) (.int k b) = some (.int k (k.wrap (a.tdiv b))) := by rw [bin_int]; simp [binOp, Op.intDiv, peek_pure, hb]
theorem binV_rem (t : TypeId) (x y : Operand) (k : IntKind) (a b : Int) (hb : b ≠ 0) : binV P H .rem t x y (.int k a) (.int k b) = some (.int k (a.tmod b)) := by rw [bin_int]; simp [binOp, Op.intDiv, peek_pure, hb]
theorem binV_eql (t : TypeId) (x y : Operand) (k : IntKind) (a b : Int) : binV P H .eql t x y (.int k a) (.int k b) = some (.bool (decide (a = b))) := by rw [bin_int]; simp [binOp, Op.intCmp, peek_pure]; rfl
theorem binV_neq (t : TypeId) (x y : Operand) (k : IntKind) (a b : Int) : binV P H .neq t x y (.int k a) (.int k b) = some (.bool (decide (a ≠ b))) := by
  rw [bin_int]; simp only [binOp, Op.intCmp, ne_eq, not_true_eq_false, if_false, peek_pure, Option.some.injEq, Value.bool.injEq]
  by_cases h : a = b <;> simp [h]
theorem binV_lss (t : TypeId) (x y : Operand) (k : IntKind) (a b : Int) : binV P H .lss t x y (.int k a) (.int k b) = some (.bool (decide (a < b))) := by rw [bin_int]; simp [binOp, Op.intCmp, peek_pure]
theorem binV_leq (t : TypeId) (x y : Operand) (k : IntKind) (a b : Int) : binV P H .leq t x y (.int k a) (.int k b) = some (.bool (decide (a ≤ b))) := by rw [bin_int]; simp [binOp, Op.intCmp, peek_pure]
theorem binV_gtr (t : TypeId) (x y : Operand) (k : IntKind) (a b : Int) : binV P H .gtr t x y (.int k a) (.int k b) = some (.bool (decide (b < a))) := by rw [bin_int]; simp [binOp, Op.intCmp, peek_pure]
theorem binV_geq (t : TypeId) (x y : Operand) (k : IntKind) (a b : Int) : binV P H .geq t x y (.int k a) (.int k b) = some (.bool (decide (b ≤ a))) := by rw [bin_int]; simp [binOp, Op.intCmp, peek_pure]
theorem unV_not (b : Bool) : unV P H .not (.bool b) = some (.bool (!b)) := (rfl)

theorem pickV_bool (t : Bool) (a b : Value) : pickV (.bool t) a b = some (if t = true then a else b) := (rfl)
theorem nilV_ptr (a : Addr) : nilV (.pointer (some a)) = some (.pointer (some a)) := (rfl)
end

end Go.Proofs.YtngnbafididkcaaGreat
end
section
namespace Go.Proofs.YtngnbafididkcaaGreat
open Go.RowKit

/-- Where a value is known, what follows. -/
def onV (x : Option Value) (K : Value → AH → Nat → Prop) (H : AH) (nx : Nat) : Prop := match x with | some v => K v H nx | none => False
def onA {α : Type} (x : Option α) (F : α → Prop) : Prop := match x with | some v => F v | none => False
theorem onV_some (v : Value) (K : Value → AH → Nat → Prop) (H : AH) (nx : Nat) : onV (some v) K H nx = K v H nx := (rfl)
theorem onA_some {α : Type} (v : α) (F : α → Prop) : onA (some v) F = F v := (rfl)
theorem ex_onV {x : Option Value} {K : Value → AH → Nat → Prop} {H : AH} {nx : Nat} : (∃ v, x = some v ∧ K v H nx) = onV x K H nx := by
  cases x <;> simp [onV]
theorem ex_onA {α : Type} {x : Option α} {F : α → Prop} : (∃ v, x = some v ∧ F v) = onA x F := by
  cases x <;> simp [onA]

/-- What follows an operation; a region; where an operation is guarded; where a code parts. -/
def aopsK (P : Program) (lo : Nat) (ops : Array Oper) (rest : List Oper) (env : Env) (dst : Option Tmp) (k : Env → AH → Nat → Prop) : Value → AH → Nat → Prop := fun v H nx => aops P lo ops rest (push env dst v) H nx k
def regK (L : List Nat) (Q : Exit → Env → AH → Nat → Prop) : Env → AH → Nat → Prop := fun env H nx => Q .normal (prune L env) H nx
def guardQ (g : Option Value) (want : Bool) (P : Program) (lo : Nat) (ops : Array Oper) (o : Oper) (rest : List Oper) (env : Env) (H : AH) (nx : Nat) (k : Env → AH → Nat → Prop) : Prop :=
  ∃ b, g = some b ∧ if wantV want b = true then bop P lo o env H nx (aopsK P lo ops rest env o.dst k) else aops P lo ops rest (push env o.dst undef) H nx k
def condQ (c : Option Value) (P : Program) (lo : Nat) (L : Nat → List Nat) (x y : Code) (Q : Exit → Env → AH → Nat → Prop) (env : Env) (H : AH) (nx : Nat) : Prop :=
  ∃ t, c = some (.bool t) ∧ if t = true then awp P lo L x Q env H nx else awp P lo L y Q env H nx

section
variable {P : Program} {lo : Nat} {L : Nat → List Nat} {Q : Exit → Env → AH → Nat → Prop} {env : Env} {H : AH} {nx : Nat} {k : Env → AH → Nat → Prop}

theorem awp_skip : awp P lo L .skip Q env H nx = Q .normal env H nx := (rfl)
theorem awp_ret : awp P lo L .ret Q env H nx = Q .ret env H nx := (rfl)
theorem awp_exit (id : Nat) : awp P lo L (.exit id) Q env H nx = Q (.exit id) env H nx := (rfl)
theorem awp_block (id : Nat) (c : Code) : awp P lo L (.block id c) Q env H nx = awp P lo L c (blockQ id Q) env H nx := (rfl)
theorem awp_region (id : Nat) (ops : Array Oper) : awp P lo L (.region id ops false) Q env H nx = aops P lo ops ops.toList env H nx (regK (L id) Q) := (rfl)
theorem regK_app (l : List Nat) : regK l Q env H nx = Q .normal (prune l env) H nx := (rfl)
theorem awp_cond (c : Operand) (x y : Code) : awp P lo L (.cond c x y) Q env H nx = condQ (ev env c) P lo L x y Q env H nx := (rfl)
theorem condQ_true (x y : Code) : condQ (some (.bool true)) P lo L x y Q env H nx = awp P lo L x Q env H nx := by simp [condQ]
theorem condQ_false (x y : Code) : condQ (some (.bool false)) P lo L x y Q env H nx = awp P lo L y Q env H nx := by simp [condQ]
theorem condQ_split {x y : Code} {t : Bool} (h1 : t = true → awp P lo L x Q env H nx) (h2 : t = false → awp P lo L y Q env H nx) : condQ (some (.bool t)) P lo L x y Q env H nx := by
  cases t
  · rw [condQ_false]; exact h2 rfl
  · rw [condQ_true]; exact h1 rfl

theorem thenQ_ret : thenQ k Q .ret = Q .ret := (rfl)
theorem thenQ_exit (id : Nat) : thenQ k Q (.exit id) = Q (.exit id) := (rfl)
theorem blockQ_normal (id : Nat) : blockQ id Q .normal = Q .normal := (rfl)
theorem blockQ_ret (id : Nat) : blockQ id Q .ret = Q .ret := (rfl)
theorem blockQ_exit (id id' : Nat) : blockQ id Q (.exit id') = if id' = id then Q .normal else Q (.exit id') := (rfl)

variable {ops : Array Oper} {rest : List Oper} {dst : Option Tmp} {type : TypeId} {pos : String} {after : Array Edge} {K : Value → AH → Nat → Prop}

theorem aops_nil : aops P lo ops [] env H nx k = k env H nx := (rfl)
theorem aops_cons (op : Op) : aops P lo ops ({ dst, op, type, pos, after, guard := none } :: rest) env H nx k =
    bop P lo { dst, op, type, pos, after, guard := none } env H nx (aopsK P lo ops rest env dst k) := (rfl)
theorem aopsK_app (v : Value) : aopsK P lo ops rest env dst k v H nx = aops P lo ops rest (push env dst v) H nx k := (rfl)
theorem aops_guard (op : Op) (j : Nat) (want : Bool) : aops P lo ops ({ dst, op, type, pos, after, guard := some (j, want) } :: rest) env H nx k =
    guardQ (guardB ops env j) want P lo ops { dst, op, type, pos, after, guard := some (j, want) } rest env H nx k := rfl
theorem guardQ_undef (o : Oper) (want : Bool) : guardQ (some undef) want P lo ops o rest env H nx k = aops P lo ops rest (push env o.dst undef) H nx k := by simp [guardQ, wantV, undef]
theorem guardQ_tt (o : Oper) : guardQ (some (.bool true)) true P lo ops o rest env H nx k = bop P lo o env H nx (aopsK P lo ops rest env o.dst k) := by simp [guardQ, wantV]
theorem guardQ_ff (o : Oper) : guardQ (some (.bool false)) false P lo ops o rest env H nx k = bop P lo o env H nx (aopsK P lo ops rest env o.dst k) := by simp [guardQ, wantV]
theorem guardQ_tf (o : Oper) : guardQ (some (.bool true)) false P lo ops o rest env H nx k = aops P lo ops rest (push env o.dst undef) H nx k := by simp [guardQ, wantV]
theorem guardQ_ft (o : Oper) : guardQ (some (.bool false)) true P lo ops o rest env H nx k = aops P lo ops rest (push env o.dst undef) H nx k := by simp [guardQ, wantV]
theorem guardQ_split {b want : Bool} {o : Oper} (h1 : b = true → guardQ (some (.bool true)) want P lo ops o rest env H nx k) (h2 : b = false → guardQ (some (.bool false)) want P lo ops o rest env H nx k) : guardQ (some (.bool b)) want P lo ops o rest env H nx k := by
  cases b
  · exact h2 rfl
  · exact h1 rfl

variable {guard : Option (Nat × Bool)}
theorem bop_move (x : Operand) : bop P lo { dst, op := .move x, type, pos, after, guard } env H nx K = onV (ev env x) K H nx := ex_onV
theorem bop_assign (x : Operand) : bop P lo { dst, op := .assign x, type, pos, after, guard } env H nx K = onV (ev env x) K H nx := ex_onV
theorem bop_pick (c a b : Operand) : bop P lo { dst, op := .pick c a b, type, pos, after, guard } env H nx K = onV (((ev env c).bind fun u => (ev env a).bind fun v => (ev env b).bind fun w => pickV u v w)) K H nx := ex_onV
theorem bop_nilCheck (x : Operand) : bop P lo { dst, op := .nilCheck x, type, pos, after, guard } env H nx K = onV ((ev env x).bind nilV) K H nx := ex_onV
theorem bop_binOp (op : BinOp) (t : TypeId) (x y : Operand) (yt : TypeId) : bop P lo { dst, op := .binOp op t x y yt, type, pos, after, guard } env H nx K = onV (((ev env x).bind fun a => (ev env y).bind fun b => binV P H op t x y a b)) K H nx := ex_onV
theorem bop_unOp (op : UnOp) (t : TypeId) (x : Operand) : bop P lo { dst, op := .unOp op t x, type, pos, after, guard } env H nx K = onV ((ev env x).bind (unV P H op)) K H nx := ex_onV
theorem bop_load (t : TypeId) (x : Operand) : bop P lo { dst, op := .load t x, type, pos, after, guard } env H nx K = onV ((ev env x).bind (loadV P H t)) K H nx := ex_onV
theorem bop_fieldAddr (s : TypeId) (x : Operand) (f : Nat) : bop P lo { dst, op := .fieldAddr s x f, type, pos, after, guard } env H nx K = onV ((ev env x).bind (fieldAV P H s f)) K H nx := ex_onV
theorem bop_field (s : TypeId) (x : Operand) (f : Nat) : bop P lo { dst, op := .field s x f, type, pos, after, guard } env H nx K = onV ((ev env x).bind (fieldV P H s f)) K H nx := ex_onV
theorem bop_indexAddr (t : TypeId) (x i : Operand) : bop P lo { dst, op := .indexAddr t x i, type, pos, after, guard } env H nx K = onV (((ev env x).bind fun a => (ev env i).bind fun b => indexAV P H t a b)) K H nx := ex_onV
theorem bop_index (t : TypeId) (x i : Operand) : bop P lo { dst, op := .index t x i, type, pos, after, guard } env H nx K = onV (((ev env x).bind fun a => (ev env i).bind fun b => indexV P H t a b)) K H nx := ex_onV
theorem bop_extract (x : Operand) (i : Nat) : bop P lo { dst, op := .extract x i, type, pos, after, guard } env H nx K = onV (((ev env x).bind fun a => extractV P H a i)) K H nx := ex_onV
theorem bop_slice (t : TypeId) (x : Operand) (l h m : Option Operand) : bop P lo { dst, op := .slice t x l h m, type, pos, after, guard } env H nx K =
    onV ((ev env x).bind fun a => (evo env l).bind fun l => (evo env h).bind fun h => (evo env m).bind fun m => sliceV P H t a l h m) K H nx := ex_onV
theorem bop_lookup (t : TypeId) (x i : Operand) (ok : Bool) : bop P lo { dst, op := .lookup t x i ok, type, pos, after, guard } env H nx K = onV (((ev env x).bind fun a => (ev env i).bind fun b => lookupV P H t a b ok)) K H nx := ex_onV
theorem bop_build (t : TypeId) (ps : Array (Nat × Operand)) : bop P lo { dst, op := .build t ps, type, pos, after, guard } env H nx K = onV (((evp env ps.toList).bind fun l => buildV P H t l.toArray)) K H nx := ex_onV
theorem bop_makeFunc (fn : Fn) (a b : Array Operand) : bop P lo { dst, op := .makeFunc fn a b, type, pos, after, guard } env H nx K = onV (((evs env a.toList).bind fun l => (evs env b.toList).bind fun r => makeFV fn l.toArray r.toArray)) K H nx := ex_onV
theorem bop_len (args : Array Operand) (ts : Array TypeId) : bop P lo { dst, op := .call { callee := .builtin .len, args, argTypes := ts }, type, pos, after, guard } env H nx K = onV (((evs env args.toList).bind fun l => lenV P H ts type l.toArray)) K H nx := ex_onV
theorem bop_min (args : Array Operand) (ts : Array TypeId) : bop P lo { dst, op := .call { callee := .builtin .min, args, argTypes := ts }, type, pos, after, guard } env H nx K = onV (((evs env args.toList).bind fun l => minV P H ts type l.toArray)) K H nx := ex_onV
theorem bop_max (args : Array Operand) (ts : Array TypeId) : bop P lo { dst, op := .call { callee := .builtin .max, args, argTypes := ts }, type, pos, after, guard } env H nx K = onV (((evs env args.toList).bind fun l => maxV P H ts type l.toArray)) K H nx := ex_onV
theorem bop_convert (s d : TypeId) (x : Operand) : bop P lo { dst, op := .convert s d x, type, pos, after, guard } env H nx K = onA (ev env x) (fun a => convQ P lo s d a K H nx) := ex_onA
theorem bop_store (t : TypeId) (x y : Operand) : bop P lo { dst, op := .store t x y, type, pos, after, guard } env H nx K = onA (ev env x) (fun a => onA (ev env y) fun v => storeQ P lo t a v (K undef) H nx) := by
  simp only [← ex_onA]; rfl
theorem bop_alloc (t : TypeId) : bop P lo { dst, op := .alloc t, type, pos, after, guard } env H nx K = allocQ P lo t K H nx := (rfl)
theorem bop_box (t : TypeId) (x : Operand) : bop P lo { dst, op := .box t x, type, pos, after, guard } env H nx K = onA (ev env x) (fun v => boxQ P lo t v K H nx) := ex_onA
theorem bop_buildSlice (t : TypeId) (n : Nat) (ps : Array (Nat × Operand)) : bop P lo { dst, op := .buildSlice t n ps, type, pos, after, guard } env H nx K = onA (evp env ps.toList) (fun l => buildSQ P lo t n l.toArray K H nx) := ex_onA
theorem bop_call (f : Operand) (args : Array Operand) (ts : Array TypeId) : bop P lo { dst, op := .call { callee := .value f, args, argTypes := ts }, type, pos, after, guard } env H nx K = onA (ev env f) (fun g => onA (evs env args.toList) fun l => callQ P lo g l K H nx) := by
  simp only [← ex_onA]; rfl
theorem bop_append (args : Array Operand) (ts : Array TypeId) : bop P lo { dst, op := .call { callee := .builtin .append, args, argTypes := ts }, type, pos, after, guard } env H nx K =
    onA (evs env args.toList) (fun l => builtQ P lo .append ts type (args.map fun | .const _ => true | _ => false) l K H nx) := ex_onA

theorem ev_tmp (t : Tmp) : ev env (.tmp t) = eg env t := (rfl)
theorem ev_const (v : Value) : ev env (.const v) = some v := (rfl)
theorem ev_func (f : FuncId) : ev env (.func f) = some (.func (.func f) #[] #[]) := (rfl)
theorem eg_cons (s t : Nat) (v : Value) : eg ((s, v) :: env) t = if s = t then some v else eg env t := (rfl)
theorem eg_nil (t : Nat) : eg [] t = none := (rfl)
theorem push_some (d : Tmp) (v : Value) : push env (some d) v = (d, v) :: env := (rfl)
theorem push_none (v : Value) : push env none v = env := (rfl)
theorem prune_nil : prune [] env = [] := (rfl)
theorem prune_cons (t : Nat) (l : List Nat) : prune (t :: l) env = match eg env t with | some v => (t, v) :: prune l env | none => prune l env := (rfl)
theorem evs_nil : evs env [] = some [] := (rfl)
theorem evs_cons (x : Operand) (l : List Operand) : evs env (x :: l) = (ev env x).bind fun v => (evs env l).bind fun l => some (v :: l) := (rfl)
theorem evp_nil : evp env [] = some [] := (rfl)
theorem evp_cons (i : Nat) (x : Operand) (l : List (Nat × Operand)) : evp env ((i, x) :: l) = (ev env x).bind fun v => (evp env l).bind fun l => some ((i, v) :: l) := (rfl)
theorem evo_none : evo env none = some none := (rfl)
theorem evo_some (x : Operand) : evo env (some x) = (ev env x).bind fun v => some (some v) := (rfl)
theorem argEnv_nil (i : Nat) : argEnv i [] = [] := (rfl)
theorem argEnv_cons (i : Nat) (v : Value) (l : List Value) : argEnv i (v :: l) = (i, v) :: argEnv (i + 1) l := (rfl)

/-- A call of a function that the text names. -/
theorem callQ_func (n : Nat) (l : List Value) : callQ P lo (.func (.func n) #[] #[]) l K H nx =
    (if fnOk P n = true then ACalls P lo n l.toArray H nx K else externQ P lo n l.toArray K H nx) := by
  show (if fnOk P n = true then ACalls P lo n ((#[] ++ l.toArray) ++ #[]) H nx K else externQ P lo n ((#[] ++ l.toArray) ++ #[]) K H nx) = _
  rw [Array.empty_append, Array.append_empty]

theorem put_same (b o : Nat) (v : Value) : (H.put b o v).c b o = some v := by simp [AH.put]
theorem put_other (b o b' o' : Nat) (v : Value) (h : b' ≠ b ∨ o' ≠ o) : (H.put b o v).c b' o' = H.c b' o' := by
  simp only [AH.put]; rw [if_neg (by omega)]
theorem put_o (b o b' : Nat) (v : Value) : (H.put b o v).o b' = H.o b' := (rfl)
theorem put_t (b o b' : Nat) (v : Value) : (H.put b o v).t b' = H.t b' := (rfl)
theorem new_same (n o' : Nat) (vs : Array Value) (e : TypeId) : (H.new n vs e).c n o' = vs[o']? := by simp [AH.new]
theorem new_other (n b' o' : Nat) (vs : Array Value) (e : TypeId) (h : b' ≠ n) : (H.new n vs e).c b' o' = H.c b' o' := by
  simp only [AH.new]; rw [if_neg h]
theorem new_o (n b' : Nat) (vs : Array Value) (e : TypeId) (h : b' ≠ n) : (H.new n vs e).o b' = H.o b' := by
  simp only [AH.new]; rw [if_neg h]
theorem new_t_same (n : Nat) (vs : Array Value) (e : TypeId) : (H.new n vs e).t n = some (e, vs.size) := by simp [AH.new]
theorem new_t_other (n b' : Nat) (vs : Array Value) (e : TypeId) (h : b' ≠ n) : (H.new n vs e).t b' = H.t b' := by
  simp only [AH.new]; rw [if_neg h]

theorem aw_then {α β : Type} (s : Sem α) (f : α → Sem β) (K : β → AH → Nat → Prop) : aw P lo (s >>= f) K H nx = aw P lo s (fun a H nx => aw P lo (f a) K H nx) H nx := propext (aw_bind P lo s f K H nx)
theorem aw_pure {α : Type} (a : α) (K : α → AH → Nat → Prop) : aw P lo (pure a : Sem α) K H nx = K a H nx := (rfl)
theorem aw_known {α : Type} {s : Sem α} {a : α} {K : α → AH → Nat → Prop} (h : peek P H s = some a) (hk : K a H nx) : aw P lo s K H nx := aw_peek h hk

end

/-! ### Ends -/
section
variable {P : Program} {fn : Func} {R : Value → AH → Nat → Prop} {env : Env} {H : AH} {nx : Nat}
theorem retQ_normal : retQ P fn R .normal env H nx = retQ P fn R .ret env H nx := (rfl)

theorem retQ_none (h : fn.results = #[]) : retQ P fn R .ret env H nx = R (.tuple #[]) H nx := by
  simp only [retQ, resKnown, results, h, eq_iff_iff]
  simp [peek_pure]

theorem retQ_one {d : Nat} (h : fn.results = #[.tmp d]) (hd : d < fn.ntmps) : retQ P fn R .ret env H nx = onV (eg env d) R H nx := by
  rw [← ex_onV]
  simp only [retQ, resKnown, results, h, eq_iff_iff]
  have := envArr_get fn.ntmps env d hd
  simp only [Array.getD_eq_getD_getElem?] at this
  constructor
  · rintro ⟨h1, v, h2, h3⟩
    simp at h1
    obtain ⟨u, hu⟩ := Option.isSome_iff_exists.1 h1
    refine ⟨u, hu, ?_⟩
    simp [peek_pure] at h2
    rw [this, hu] at h2
    simp at h2
    subst h2
    exact h3
  · rintro ⟨v, h1, h2⟩
    refine ⟨by simp [h1], v, ?_, h2⟩
    simp [peek_pure]
    rw [this, h1]; rfl

theorem retQ_two {d e : Nat} (h : fn.results = #[.tmp d, .tmp e]) (hd : d < fn.ntmps) (he : e < fn.ntmps) : retQ P fn R .ret env H nx = onA (eg env d) (fun v => onA (eg env e) fun u => R (.tuple #[v, u]) H nx) := by
  simp only [← ex_onA]
  simp only [retQ, resKnown, results, h, eq_iff_iff]
  have t1 := envArr_get fn.ntmps env d hd
  have t2 := envArr_get fn.ntmps env e he
  simp only [Array.getD_eq_getD_getElem?] at t1 t2
  constructor
  · rintro ⟨h1, v, h2, h3⟩
    simp at h1
    obtain ⟨u, hu⟩ := Option.isSome_iff_exists.1 h1.1
    obtain ⟨u', hu'⟩ := Option.isSome_iff_exists.1 h1.2
    refine ⟨u, hu, u', hu', ?_⟩
    simp [peek_pure] at h2
    rw [t1, t2, hu, hu'] at h2
    simp at h2
    subst h2
    exact h3
  · rintro ⟨v, h1, u, h2, h3⟩
    refine ⟨by simp [h1, h2], _, ?_, h3⟩
    simp [peek_pure]
    rw [t1, t2, h1, h2]; simp
end

attribute [go_sem] Option.bind_some Option.bind_none Option.some.injEq Value.bool.injEq if_pos if_neg ite_true ite_false guardB List.getElem?_toArray List.getElem?_cons_zero List.getElem?_cons_succ Nat.zero_add Nat.add_zero reduceCtorEq
attribute [go_sem] awp_seq awp_skip awp_ret awp_exit awp_block awp_region awp_cond thenQ_normal thenQ_ret thenQ_exit blockQ_normal blockQ_ret blockQ_exit aops_nil aops_cons aops_guard aopsK_app regK_app condQ_true condQ_false guardQ_undef guardQ_tt guardQ_tf guardQ_ft guardQ_ff bop_move bop_assign bop_pick bop_nilCheck bop_binOp bop_unOp bop_load bop_fieldAddr bop_field bop_indexAddr bop_index bop_extract bop_slice bop_lookup bop_build bop_makeFunc bop_len bop_min bop_max bop_convert bop_store bop_alloc bop_box bop_buildSlice bop_call bop_append onV_some onA_some ev_tmp ev_const ev_func eg_cons eg_nil push_some push_none prune_nil prune_cons evs_nil evs_cons evp_nil evp_cons evo_none evo_some argEnv_nil argEnv_cons callQ_func put_same put_other put_o put_t new_same new_other new_o new_t_same new_t_other binV_add binV_sub binV_mul binV_quo binV_rem binV_eql binV_neq binV_lss binV_leq binV_gtr binV_geq unV_not pickV_bool nilV_ptr loadN_zero loadN_succ extractV_eq retQ_normal

end Go.Proofs.YtngnbafididkcaaGreat
end
section
namespace Go.Proofs.YtngnbafididkcaaGreat
open Go.RowKit

/-- Cells written one behind the other. -/
def AH.puts (H : AH) (b : Nat) : Nat → List Value → AH
  | _, [] => H
  | o, v :: r => (H.put b o v).puts b (o + 1) r

theorem puts_nil (H : AH) (b o : Nat) : H.puts b o [] = H := (rfl)
theorem puts_cons (H : AH) (b o : Nat) (v : Value) (r : List Value) : H.puts b o (v :: r) = (H.put b o v).puts b (o + 1) r := (rfl)

theorem aw_unpeek {α : Type} {P : Program} {lo : Nat} {s : Sem α} : ∀ {a : α} {K : α → AH → Nat → Prop} {H : AH} {nx : Nat}, peek P H s = some a → aw P lo s K H nx → K a H nx := by
  induction s with
  | pure b => intro a K H nx h hk; simp only [peek, Option.some.injEq] at h; subst h; exact hk
  | load m ad k ih =>
    intro a K H nx h hk
    simp only [peek] at h
    obtain ⟨bl, off, sp⟩ := ad
    obtain ⟨rfl, v, hv, hk⟩ := hk
    simp only at hv
    simp only [Option.isSome_none, Bool.false_eq_true, if_false, hv] at h
    exact ih v h hk
  | shape r k ih =>
    intro a K H nx h hk
    rcases hk with ⟨x, hx, hk⟩ | ⟨hx, _⟩
    · simp only [peek, hx] at h
      exact ih _ h hk
    · simp only [peek, hx] at h
      cases h
  | frozen ad k ih =>
    intro a K H nx h hk
    simp only [peek] at h
    split at h
    · rcases hk with ⟨_, hk⟩ | hk
      · exact ih _ h hk
      · exact ih _ h (hk false)
    · cases h
  | getObj r k ih =>
    intro a K H nx h hk
    obtain ⟨x, hx, hk⟩ := hk
    simp only [peek, hx] at h
    exact ih _ h hk
  | program k ih => intro a K H nx h hk; exact ih P h hk
  | mark m k ih => intro a K H nx h hk; exact ih h hk
  | choose q k ih =>
    intro a K H nx h hk
    simp only [peek] at h
    split at h
    · rename_i hf
      exact ih 0 h (hk.1 hf)
    · cases h
  | _ => intro a K H nx h hk; simp [peek] at h

section
variable {P : Program} {lo : Nat} {H : AH} {nx : Nat}

theorem aw_load (b o : Nat) (K : Value → AH → Nat → Prop) : aw P lo (load ⟨b, o, none⟩) K H nx = ∃ v, H.c b o = some v ∧ K v H nx := by
  simp only [load, aw, true_and]

theorem aw_of_peek {α : Type} {s : Sem α} {a : α} (h : peek P H s = some a) (K : α → AH → Nat → Prop) (hk : K a H nx) : aw P lo s K H nx := aw_peek h hk

theorem aw_store {b o : Nat} {v : Value} {K : Unit → AH → Nat → Prop} (hlo : lo ≤ b) (hv : v.oneCell' = true) (hc : (H.c b o).isSome = true) (hk : K () (H.put b o v) nx) : aw P lo (store ⟨b, o, none⟩ v) K H nx := by
  simp only [store, aw]
  exact ⟨trivial, hlo, hv, hc, hk⟩

theorem aw_storeCells {b : Nat} {K : Unit → AH → Nat → Prop} (hlo : lo ≤ b) : ∀ (vs : List Value) (o i : Nat) (H : AH), (∀ v ∈ vs, v.oneCell' = true) → (∀ j, j < vs.length → (H.c b (o + i + j)).isSome = true) → K () (H.puts b (o + i) vs) nx → aw P lo (storeCells ⟨b, o, none⟩ vs i) K H nx
  | [], o, i, H, _, _, hk => hk
  | v :: r, o, i, H, h1, hc, hk => by
    unfold storeCells
    rw [aw_then, add_none]
    refine aw_store hlo (h1 v (by simp)) (by simpa using hc 0 (by simp)) ?_
    refine aw_storeCells hlo r o (i + 1) _ (fun v hv => h1 v (by simp [hv])) (fun j hj => ?_) ?_
    · rw [put_other _ _ _ _ _ (by omega)]
      have := hc (j + 1) (by simp; omega)
      rwa [show o + i + (j + 1) = o + (i + 1) + j by omega] at this
    · rw [show o + (i + 1) = o + i + 1 by omega]
      exact hk

theorem storeQ_one {t b o : Nat} {v : Value} {K : AH → Nat → Prop} (ht : szT P t = some 1) (hv : v.oneCell' = true) (hlo : lo ≤ b) (hc : (H.c b o).isSome = true) (hk : K (H.put b o v) nx) : storeQ P lo t (.pointer (some ⟨b, o, none⟩)) v K H nx := by
  have hcells : v.cells = #[v] := by cases v <;> first | rfl | simp [Value.oneCell'] at hv
  unfold storeQ Instr.storeAt
  rw [aw_then]
  simp only [Instr.sureAddr, aw_pure]
  unfold storeVar
  rw [aw_then]
  refine aw_of_peek (by rw [peek_sizeOf, ht]) _ ?_
  simp only [hcells, List.size_toArray, List.length_cons, List.length_nil, ne_eq, not_true_eq_false, if_false]
  refine aw_storeCells hlo _ o 0 _ (by simpa using hv) (fun j hj => ?_) (by simpa [AH.puts] using hk)
  simp at hj
  subst hj
  simpa using hc

theorem storeQ_agg {t b o n : Nat} {cs : List Value} {K : AH → Nat → Prop} (ht : szT P t = some n) (hn : cs.length = n) (hv : ∀ v ∈ cs, v.oneCell' = true) (hlo : lo ≤ b) (hc : ∀ j, j < cs.length → (H.c b (o + j)).isSome = true) (hk : K (H.puts b o cs) nx) : storeQ P lo t (.pointer (some ⟨b, o, none⟩)) (.agg cs.toArray) K H nx := by
  unfold storeQ Instr.storeAt
  rw [aw_then]
  simp only [Instr.sureAddr, aw_pure]
  unfold storeVar
  rw [aw_then]
  refine aw_of_peek (by rw [peek_sizeOf, ht]) _ ?_
  simp only [Value.cells, List.size_toArray, hn, ne_eq, not_true_eq_false, if_false]
  exact aw_storeCells hlo _ o 0 _ hv (by simpa using hc) (by simpa using hk)

theorem aw_newRow {e : TypeId} {cs : Array Value} {K : Addr → AH → Nat → Prop} (hk : ∀ n, nx ≤ n → K ⟨n, 0, none⟩ (H.new n cs e) (n + 1)) : aw P lo (newRow e cs) K H nx := by
  unfold newRow
  rw [aw_then]
  simp only [newObj, aw]
  exact hk

theorem allocQ_of {t : TypeId} {z : Value} {K : Value → AH → Nat → Prop} (hz : zeroT P t = some z) (hk : ∀ n, nx ≤ n → K (.pointer (some ⟨n, 0, none⟩)) (H.new n z.cells t) (n + 1)) : allocQ P lo t K H nx := by
  unfold allocQ Instr.alloc
  rw [aw_then]
  refine aw_of_peek (a := z) ?_ _ ?_
  · unfold zeroValue
    rw [peek_then, peek_typeInfo]
    unfold zeroT at hz
    cases h : P.info? t with
    | none => rw [h] at hz; cases hz
    | some i =>
      rw [h] at hz
      simp only [Option.bind_some] at hz ⊢
      rw [hz]; rfl
  · simp only [newVar]
    rw [aw_then]
    exact aw_newRow hk

theorem boxQ_of {t : TypeId} {v : Value} {K : Value → AH → Nat → Prop} (hk : ∀ n, nx ≤ n → K (.pointer (some ⟨n, 0, none⟩)) (H.new n v.cells t) (n + 1)) : boxQ P lo t v K H nx := by
  unfold boxQ Instr.box newVar
  rw [aw_then]
  exact aw_newRow hk

theorem peek_stuck {α : Type} (s : String) : peek P H (stuck s : Sem α) = none := (rfl)

theorem buildSQ_of {t e : TypeId} {n k : Nat} {z : Value} {ps : Array (Nat × Value)} {cs : Array Value} {K : Value → AH → Nat → Prop} (ht : slT P t = some (e, k)) (hz : zeroT P e = some z) (hpos : n * k ≠ 0) (hmax : n * k ≤ 2 ^ 24)
    (hfill : Instr.fill (fun i => some (i * k, k)) ((Array.range (n * k)).map fun i => z.cells[i % z.cells.size]!) ps.toList = some cs)
    (hk : ∀ m, nx ≤ m → K (.slice (some ⟨m, 0, none⟩) n n) (H.new m cs e) (m + 1)) : buildSQ P lo t n ps K H nx := by
  unfold slT at ht
  cases hu : P.underlying t with
  | none => rw [hu] at ht; cases ht
  | some d =>
    rw [hu] at ht
    cases d <;> simp only [reduceCtorEq] at ht
    rename_i e'
    simp only [Option.map_eq_some_iff, Prod.mk.injEq] at ht
    obtain ⟨k', hk', rfl, rfl⟩ := ht
    unfold buildSQ Instr.buildSlice
    rw [aw_then]
    refine aw_of_peek (by rw [peek_underlying, hu]) _ ?_
    simp only
    rw [aw_then]
    refine aw_of_peek (by rw [peek_sizeOf, hk']) _ ?_
    rw [if_neg (by omega)]
    simp only [hpos, if_false]
    rw [aw_then]
    refine aw_of_peek (a := z) ?_ _ ?_
    · unfold zeroValue
      rw [peek_then, peek_typeInfo]
      unfold zeroT at hz
      cases h : P.info? e' with
      | none => rw [h] at hz; cases hz
      | some i =>
        rw [h] at hz
        simp only [Option.bind_some] at hz ⊢
        rw [hz]; rfl
    · rw [aw_then, aw_pure]
      simp only [hfill]
      rw [aw_then]
      exact aw_newRow hk

/-- An empty literal. -/
theorem buildSQ_nil {t e : TypeId} {k : Nat} {K : Value → AH → Nat → Prop} (ht : slT P t = some (e, k)) (hk : ∀ m, nx ≤ m → K (.slice (some ⟨m, 0, none⟩) 0 0) (H.new m #[] e) (m + 1)) : buildSQ P lo t 0 #[] K H nx := by
  unfold slT at ht
  cases hu : P.underlying t with
  | none => rw [hu] at ht; cases ht
  | some d =>
    rw [hu] at ht
    cases d <;> simp only [reduceCtorEq] at ht
    rename_i e'
    simp only [Option.map_eq_some_iff, Prod.mk.injEq] at ht
    obtain ⟨k', hk', rfl, rfl⟩ := ht
    unfold buildSQ Instr.buildSlice
    rw [aw_then]
    refine aw_of_peek (by rw [peek_underlying, hu]) _ ?_
    simp only
    rw [aw_then]
    refine aw_of_peek (by rw [peek_sizeOf, hk']) _ ?_
    simp only [Nat.zero_mul]
    rw [if_neg (by omega)]
    simp only [if_true]
    rw [aw_then, aw_pure]
    simp only [Instr.fill]
    rw [aw_then]
    have e0 : ∀ f : Nat → Value, (Array.range 0).map f = #[] := fun f => by simp
    rw [e0]
    exact aw_newRow (K := fun a H nx => K (.slice (some a) 0 0) H nx) (cs := #[]) fun n hn => hk n hn

theorem convQ_int {s d : TypeId} {k k' : IntKind} {n : Int} {K : Value → AH → Nat → Prop} (hs : (P.underlying s).isSome = true) (hd : intT P d = some k) : convQ P lo s d (.int k' n) K H nx = K (.int k (k.wrap n)) H nx := by
  have h : peek P H (convert s d (.int k' n)) = some (.int k (k.wrap n)) := by
    unfold convert
    obtain ⟨us, hus⟩ := Option.isSome_iff_exists.1 hs
    unfold intT at hd
    cases hu : P.underlying d with
    | none => rw [hu] at hd; cases hd
    | some ud =>
      rw [hu] at hd
      cases ud <;> simp only [reduceCtorEq, Option.some.injEq] at hd
      subst hd
      rw [peek_then, peek_underlying, hus]
      simp only [Option.bind_some]
      rw [peek_then, peek_underlying, hu]
      simp only [Option.bind_some, Conv.intToInt, peek_pure]
  unfold convQ
  exact propext ⟨fun hh => aw_unpeek h hh, aw_of_peek h K⟩

end

end Go.Proofs.YtngnbafididkcaaGreat
end
