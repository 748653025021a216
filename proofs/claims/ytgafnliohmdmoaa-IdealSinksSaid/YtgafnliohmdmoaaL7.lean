/- OUR OWN LOGIC OVER THE KIT'S. 7: the rules by which one goes through a body: equations on what each operation yields. Nothing of the program stands here. -/
import Derived.Test.YtgafnliohmdmoaaL6
namespace Go.Proofs.Ytgafnliohmdmoaa
open Go.RowKit

/-! ### What types are like -/
def isAggT (P : Program) (t : TypeId) : Option Bool := (P.underlying t).map fun | .struct _ | .array _ _ => true | _ => false
def szT (P : Program) (t : TypeId) : Option Nat := (P.info? t).map (·.size)
def bytesT (P : Program) (t : TypeId) : Option Nat := (P.info? t).map (·.bytes)
def zeroT (P : Program) (t : TypeId) : Option Value := (P.info? t).bind (·.zero)
/-- A field: whether it is an aggregate, how many cells it has, where it begins. -/
def fldT (P : Program) (s : TypeId) (f : Nat) : Option (Bool × Nat × Nat) := match P.underlying s with
  | some (.struct fs) => match fs[f]? with
    | some fd => match isAggT P fd.type, szT P fd.type with
      | some a, some n => some (a, n, fd.offset)
      | _, _ => none
    | none => none
  | _ => none
/-- A slice's element: whether it is an aggregate, how many cells. -/
def slT (P : Program) (t : TypeId) : Option (TypeId × Nat) := match P.underlying t with
  | some (.slice e) => (szT P e).map fun n => (e, n)
  | _ => none
def arrT (P : Program) (t : TypeId) : Option (Nat × Bool × Nat) := match P.underlying t with
  | some (.array n e) => match isAggT P e, szT P e with
    | some a, some k => some (n, a, k)
    | _, _ => none
  | _ => none
def strT (P : Program) (t : TypeId) : Bool := match P.underlying t with | some .string => true | _ => false
def intT (P : Program) (t : TypeId) : Option IntKind := match P.underlying t with | some (.int k) => some k | _ => none

section
variable {P : Program} {H : AH}

theorem peek_pure {α : Type} (a : α) : peek P H (pure a : Sem α) = some a := (rfl)
theorem peek_then {α β : Type} (s : Sem α) (f : α → Sem β) : peek P H (s >>= f) = (peek P H s).bind fun a => peek P H (f a) := peek_bind P H s f
theorem peek_fmap {α β : Type} (s : Sem α) (f : α → β) : peek P H (f <$> s) = (peek P H s).map f := by
  show peek P H (s.bind fun a => .pure (f a)) = _
  rw [peek_bind]
  cases peek P H s <;> rfl
theorem peek_program : peek P H program = some P := (rfl)
theorem peek_underlying (t : TypeId) : peek P H (underlying t) = P.underlying t := by
  unfold underlying
  rw [peek_then, peek_program]
  simp only [Option.bind_some]
  cases P.underlying t <;> rfl
theorem peek_typeInfo (t : TypeId) : peek P H (typeInfo t) = P.info? t := by
  unfold typeInfo
  rw [peek_then, peek_program]
  simp only [Option.bind_some]
  cases P.info? t <;> rfl
theorem peek_sizeOf (t : TypeId) : peek P H (sizeOf t) = szT P t := by
  unfold sizeOf szT
  rw [peek_then, peek_typeInfo]
  cases P.info? t <;> rfl
theorem peek_isAgg (t : TypeId) : peek P H (isAgg t) = isAggT P t := by
  unfold isAgg isAggT
  rw [peek_then, peek_underlying]
  cases h : P.underlying t with
  | none => rfl
  | some d => cases d <;> rfl
theorem peek_load (b o : Nat) : peek P H (load ⟨b, o, none⟩) = H.c b o := by
  unfold load
  simp only [peek, Option.isSome_none, Bool.false_eq_true, if_false]
  cases H.c b o <;> rfl

theorem add_none (b o n : Nat) : (⟨b, o, none⟩ : Addr).add n = ⟨b, o + n, none⟩ := by unfold Addr.add; split <;> simp_all

/-- n cells, one behind the other. -/
def loadN (H : AH) (b : Nat) : Nat → Nat → Option (List Value)
  | _, 0 => some []
  | o, n + 1 => (H.c b o).bind fun v => (loadN H b (o + 1) n).bind fun l => some (v :: l)

theorem peek_loadCellsFrom (b o : Nat) : ∀ (n i : Nat) (acc : Array Value), peek P H (loadCellsFrom ⟨b, o, none⟩ i n acc) = (loadN H b (o + i) n).map fun l => acc ++ l.toArray
  | 0, i, acc => by simp [loadCellsFrom, loadN, peek_pure]
  | n + 1, i, acc => by
    unfold loadCellsFrom
    rw [peek_then, add_none, peek_load]
    simp only [loadN]
    cases h : H.c b (o + i) with
    | none => rfl
    | some v =>
      simp only [Option.bind_some]
      rw [peek_loadCellsFrom b o n (i + 1) (acc.push v), show o + (i + 1) = o + i + 1 by omega]
      cases loadN H b (o + i + 1) n with
      | none => rfl
      | some l => simp

theorem loadV_eq (t : TypeId) (b o : Nat) : loadV P H t (.pointer (some ⟨b, o, none⟩)) = match isAggT P t with
    | some false => H.c b o
    | some true => (szT P t).bind fun n => (loadN H b o n).map fun l => .agg l.toArray
    | none => none := by
  unfold loadV valOf Instr.loadAt
  rw [peek_then]
  simp only [Instr.sureAddr, peek_pure, Option.bind_some]
  unfold loadVar
  rw [peek_then, peek_isAgg]
  cases h : isAggT P t with
  | none => rfl
  | some a =>
    cases a with
    | false => simp only [Option.bind_some, Bool.false_eq_true, if_false]; exact peek_load b o
    | true =>
      simp only [Option.bind_some, if_true]
      rw [peek_then, peek_sizeOf]
      cases szT P t with
      | none => rfl
      | some n =>
        simp only [Option.bind_some]
        rw [peek_then]
        unfold loadCells
        rw [peek_loadCellsFrom, Nat.add_zero]
        cases loadN H b o n with
        | none => rfl
        | some l => simp [peek_pure]

theorem loadN_zero (b o : Nat) : loadN H b o 0 = some [] := (rfl)
theorem loadN_succ (b o n : Nat) : loadN H b o (n + 1) = (H.c b o).bind fun v => (loadN H b (o + 1) n).bind fun l => some (v :: l) := (rfl)

theorem fieldAV_eq (s : TypeId) (f : Nat) (b o : Nat) (a : Bool) (n k : Nat) (h : fldT P s f = some (a, n + 1, k)) : fieldAV P H s f (.pointer (some ⟨b, o, none⟩)) = some (.pointer (some ⟨b, o + k, none⟩)) := by
  unfold fldT at h
  cases hu : P.underlying s with
  | none => rw [hu] at h; cases h
  | some d =>
    rw [hu] at h
    cases d <;> simp only [reduceCtorEq] at h
    rename_i fs
    cases hf : fs[f]? with
    | none => rw [hf] at h; cases h
    | some fd =>
      rw [hf] at h
      simp only at h
      split at h
      · rename_i a' n' ha hn
        simp only [Option.some.injEq, Prod.mk.injEq] at h
        obtain ⟨rfl, rfl, rfl⟩ := h
        unfold fieldAV valOf Instr.fieldAt
        rw [peek_then, peek_underlying, hu]
        simp only [Option.bind_some, hf]
        rw [peek_then]
        simp only [Instr.sureAddr, peek_pure, Option.bind_some]
        rw [peek_then]
        unfold fieldPlace
        rw [peek_then, peek_sizeOf, hn]
        simp [peek_pure, add_none]
      · cases h

theorem indexAV_slice (t e : TypeId) (n k b o c : Nat) (kk : IntKind) (i : Int) (h : slT P t = some (e, k)) (h0 : 0 ≤ i) (h1 : i < n) :
    indexAV P H t (.slice (some ⟨b, o, none⟩) n c) (.int kk i) = some (.pointer (some ⟨b, o + i.toNat * k, none⟩)) := by
  unfold slT at h
  cases hu : P.underlying t with
  | none => rw [hu] at h; cases h
  | some d =>
    rw [hu] at h
    cases d <;> simp only [reduceCtorEq] at h
    rename_i e'
    simp only [Option.map_eq_some_iff, Prod.mk.injEq] at h
    obtain ⟨k', hk, rfl, rfl⟩ := h
    unfold indexAV valOf Instr.indexAt
    simp only [peek_then, peek_pure, peek_underlying, hu, Option.bind_some, asIntOf, h0, h1, and_self, if_true, peek_sizeOf, hk, add_none]

theorem indexAV_array (t : TypeId) (n k b o : Nat) (a : Bool) (kk : IntKind) (i : Int) (h : arrT P t = some (n, a, k)) (h0 : 0 ≤ i) (h1 : i < n) :
    indexAV P H t (.pointer (some ⟨b, o, none⟩)) (.int kk i) = some (.pointer (some ⟨b, o + i.toNat * k, none⟩)) := by
  unfold arrT at h
  cases hu : P.underlying t with
  | none => rw [hu] at h; cases h
  | some d =>
    rw [hu] at h
    cases d <;> simp only [reduceCtorEq] at h
    rename_i n' e'
    split at h
    · rename_i a' k' ha hk
      simp only [Option.some.injEq, Prod.mk.injEq] at h
      obtain ⟨rfl, rfl, rfl⟩ := h
      unfold indexAV valOf Instr.indexAt
      simp only [peek_then, peek_pure, peek_underlying, hu, Option.bind_some, asIntOf, Instr.sureAddr, h0, h1, and_self, if_true, peek_sizeOf, hk, add_none]
    · cases h

theorem extractV_eq (vs : Array Value) (i : Nat) : extractV P H (.tuple vs) i = vs[i]? := by
  unfold extractV valOf Instr.extract
  cases h : vs[i]? <;> simp [h, peek_pure, stuck, peek]

theorem lenV_slice (t e : TypeId) (ty : TypeId) (k : Nat) (a : Option Addr) (n c : Nat) (h : slT P t = some (e, k)) : lenV P H #[t] ty #[.slice a n c] = some (.int .i64 n) := by
  unfold slT at h
  cases hu : P.underlying t with
  | none => rw [hu] at h; cases h
  | some d =>
    rw [hu] at h
    cases d <;> simp only [reduceCtorEq] at h
    unfold lenV valOf Builtin.len_
    simp only [List.getElem?_toArray, List.getElem?_cons_zero]
    rw [peek_then, peek_underlying, hu]
    rfl

theorem lenV_string (t : TypeId) (ty : TypeId) (s : ByteArray) (h : strT P t = true) : lenV P H #[t] ty #[.string s] = some (.int .i64 s.size) := by
  unfold strT at h
  cases hu : P.underlying t with
  | none => rw [hu] at h; cases h
  | some d =>
    rw [hu] at h
    cases d <;> simp only [reduceCtorEq] at h
    unfold lenV valOf Builtin.len_
    simp only [List.getElem?_toArray, List.getElem?_cons_zero]
    rw [peek_then, peek_underlying, hu]
    rfl

/-! ### Arithmetic and comparisons -/
theorem bin_int (op : BinOp) (t : TypeId) (x y : Operand) (k : IntKind) (a b : Int) : binV P H op t x y (.int k a) (.int k b) = peek P H (binOp op t (.int k a) (.int k b)) := by
  unfold binV valOf
  rw [peek_then]
  have : peek P H (eqGuard op t x y (.int k a) (.int k b)) = some () := by
    unfold eqGuard
    cases op <;> rfl
  rw [this]; rfl

theorem binV_add (t : TypeId) (x y : Operand) (k : IntKind) (a b : Int) : binV P H .add t x y (.int k a) (.int k b) = some (.int k (k.wrap (a + b))) := by rw [bin_int]; simp [binOp, Op.intArith, peek_pure]
theorem binV_sub (t : TypeId) (x y : Operand) (k : IntKind) (a b : Int) : binV P H .sub t x y (.int k a) (.int k b) = some (.int k (k.wrap (a - b))) := by rw [bin_int]; simp [binOp, Op.intArith, peek_pure]
theorem binV_mul (t : TypeId) (x y : Operand) (k : IntKind) (a b : Int) : binV P H .mul t x y (.int k a) (.int k b) = some (.int k (k.wrap (a * b))) := by rw [bin_int]; simp [binOp, Op.intArith, peek_pure]
theorem binV_quo (t : TypeId) (x y : Operand) (k : IntKind) (a b : Int) (hb : b ≠ 0) : binV P H .quo t x y (.int k a) (.int k b) = some (.int k (k.wrap (a.tdiv b))) := by rw [bin_int]; simp [binOp, Op.intDiv, peek_pure, hb]
theorem binV_rem (t : TypeId) (x y : Operand) (k : IntKind) (a b : Int) (hb : b ≠ 0) : binV P H .rem t x y (.int k a) (.int k b) = some (.int k (a.tmod b)) := by rw [bin_int]; simp [binOp, Op.intDiv, peek_pure, hb]
theorem binV_eql (t : TypeId) (x y : Operand) (k : IntKind) (a b : Int) : binV P H .eql t x y (.int k a) (.int k b) = some (.bool (decide (a = b))) := by rw [bin_int]; simp [binOp, Op.intCmp, peek_pure]; rfl
theorem binV_neq (t : TypeId) (x y : Operand) (k : IntKind) (a b : Int) : binV P H .neq t x y (.int k a) (.int k b) = some (.bool (decide (a ≠ b))) := by
  rw [bin_int]; simp only [binOp, Op.intCmp, ne_eq, not_true_eq_false, if_false, peek_pure, Option.some.injEq, Value.bool.injEq]
  by_cases h : a = b <;> simp [h]
theorem binV_lss (t : TypeId) (x y : Operand) (k : IntKind) (a b : Int) : binV P H .lss t x y (.int k a) (.int k b) = some (.bool (decide (a < b))) := by rw [bin_int]; simp [binOp, Op.intCmp, peek_pure]
theorem binV_leq (t : TypeId) (x y : Operand) (k : IntKind) (a b : Int) : binV P H .leq t x y (.int k a) (.int k b) = some (.bool (decide (a ≤ b))) := by rw [bin_int]; simp [binOp, Op.intCmp, peek_pure]
theorem binV_gtr (t : TypeId) (x y : Operand) (k : IntKind) (a b : Int) : binV P H .gtr t x y (.int k a) (.int k b) = some (.bool (decide (b < a))) := by rw [bin_int]; simp [binOp, Op.intCmp, peek_pure]
theorem binV_geq (t : TypeId) (x y : Operand) (k : IntKind) (a b : Int) : binV P H .geq t x y (.int k a) (.int k b) = some (.bool (decide (b ≤ a))) := by rw [bin_int]; simp [binOp, Op.intCmp, peek_pure]
theorem unV_not (b : Bool) : unV P H .not (.bool b) = some (.bool (!b)) := (rfl)

theorem pickV_bool (t : Bool) (a b : Value) : pickV (.bool t) a b = some (if t = true then a else b) := (rfl)
theorem nilV_ptr (a : Addr) : nilV (.pointer (some a)) = some (.pointer (some a)) := (rfl)
end

end Go.Proofs.Ytgafnliohmdmoaa
