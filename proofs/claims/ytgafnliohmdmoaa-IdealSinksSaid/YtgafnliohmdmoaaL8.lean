/- OUR OWN LOGIC OVER THE KIT'S. 8: the rules by which one goes through a body: codes, regions, operations, ends. Nothing of the program stands here. -/
import Derived.Test.YtgafnliohmdmoaaL7
namespace Go.Proofs.Ytgafnliohmdmoaa
open Go.RowKit

/-- Where a value is known, what follows. -/
def onV (x : Option Value) (K : Value → AH → Nat → Prop) (H : AH) (nx : Nat) : Prop := match x with | some v => K v H nx | none => False
def onA {α : Type} (x : Option α) (F : α → Prop) : Prop := match x with | some v => F v | none => False
theorem onV_some (v : Value) (K : Value → AH → Nat → Prop) (H : AH) (nx : Nat) : onV (some v) K H nx = K v H nx := (rfl)
theorem onA_some {α : Type} (v : α) (F : α → Prop) : onA (some v) F = F v := (rfl)
theorem ex_onV {x : Option Value} {K : Value → AH → Nat → Prop} {H : AH} {nx : Nat} : (∃ v, x = some v ∧ K v H nx) = onV x K H nx := by
  cases x <;> simp [onV]
theorem ex_onA {α : Type} {x : Option α} {F : α → Prop} : (∃ v, x = some v ∧ F v) = onA x F := by
  cases x <;> simp [onA]

/-- What follows an operation; a region; where an operation is guarded; where a code parts. -/
def aopsK (P : Program) (lo : Nat) (ops : Array Oper) (rest : List Oper) (env : Env) (dst : Option Tmp) (k : Env → AH → Nat → Prop) : Value → AH → Nat → Prop := fun v H nx => aops P lo ops rest (push env dst v) H nx k
def regK (L : List Nat) (Q : Exit → Env → AH → Nat → Prop) : Env → AH → Nat → Prop := fun env H nx => Q .normal (prune L env) H nx
def guardQ (g : Option Value) (want : Bool) (P : Program) (lo : Nat) (ops : Array Oper) (o : Oper) (rest : List Oper) (env : Env) (H : AH) (nx : Nat) (k : Env → AH → Nat → Prop) : Prop :=
  ∃ b, g = some b ∧ if wantV want b = true then bop P lo o env H nx (aopsK P lo ops rest env o.dst k) else aops P lo ops rest (push env o.dst undef) H nx k
def condQ (c : Option Value) (P : Program) (lo : Nat) (L : Nat → List Nat) (x y : Code) (Q : Exit → Env → AH → Nat → Prop) (env : Env) (H : AH) (nx : Nat) : Prop :=
  ∃ t, c = some (.bool t) ∧ if t = true then awp P lo L x Q env H nx else awp P lo L y Q env H nx

section
variable {P : Program} {lo : Nat} {L : Nat → List Nat} {Q : Exit → Env → AH → Nat → Prop} {env : Env} {H : AH} {nx : Nat} {k : Env → AH → Nat → Prop}

theorem awp_skip : awp P lo L .skip Q env H nx = Q .normal env H nx := (rfl)
theorem awp_ret : awp P lo L .ret Q env H nx = Q .ret env H nx := (rfl)
theorem awp_exit (id : Nat) : awp P lo L (.exit id) Q env H nx = Q (.exit id) env H nx := (rfl)
theorem awp_block (id : Nat) (c : Code) : awp P lo L (.block id c) Q env H nx = awp P lo L c (blockQ id Q) env H nx := (rfl)
theorem awp_region (id : Nat) (ops : Array Oper) : awp P lo L (.region id ops false) Q env H nx = aops P lo ops ops.toList env H nx (regK (L id) Q) := (rfl)
theorem regK_app (l : List Nat) : regK l Q env H nx = Q .normal (prune l env) H nx := (rfl)
theorem awp_cond (c : Operand) (x y : Code) : awp P lo L (.cond c x y) Q env H nx = condQ (ev env c) P lo L x y Q env H nx := (rfl)
theorem condQ_true (x y : Code) : condQ (some (.bool true)) P lo L x y Q env H nx = awp P lo L x Q env H nx := by simp [condQ]
theorem condQ_false (x y : Code) : condQ (some (.bool false)) P lo L x y Q env H nx = awp P lo L y Q env H nx := by simp [condQ]
theorem condQ_split {x y : Code} {t : Bool} (h1 : t = true → awp P lo L x Q env H nx) (h2 : t = false → awp P lo L y Q env H nx) : condQ (some (.bool t)) P lo L x y Q env H nx := by
  cases t
  · rw [condQ_false]; exact h2 rfl
  · rw [condQ_true]; exact h1 rfl

theorem thenQ_ret : thenQ k Q .ret = Q .ret := (rfl)
theorem thenQ_exit (id : Nat) : thenQ k Q (.exit id) = Q (.exit id) := (rfl)
theorem blockQ_normal (id : Nat) : blockQ id Q .normal = Q .normal := (rfl)
theorem blockQ_ret (id : Nat) : blockQ id Q .ret = Q .ret := (rfl)
theorem blockQ_exit (id id' : Nat) : blockQ id Q (.exit id') = if id' = id then Q .normal else Q (.exit id') := (rfl)

variable {ops : Array Oper} {rest : List Oper} {dst : Option Tmp} {type : TypeId} {pos : String} {after : Array Edge} {K : Value → AH → Nat → Prop}

theorem aops_nil : aops P lo ops [] env H nx k = k env H nx := (rfl)
theorem aops_cons (op : Op) : aops P lo ops ({ dst, op, type, pos, after, guard := none } :: rest) env H nx k =
    bop P lo { dst, op, type, pos, after, guard := none } env H nx (aopsK P lo ops rest env dst k) := (rfl)
theorem aopsK_app (v : Value) : aopsK P lo ops rest env dst k v H nx = aops P lo ops rest (push env dst v) H nx k := (rfl)
theorem aops_guard (op : Op) (j : Nat) (want : Bool) : aops P lo ops ({ dst, op, type, pos, after, guard := some (j, want) } :: rest) env H nx k =
    guardQ (guardB ops env j) want P lo ops { dst, op, type, pos, after, guard := some (j, want) } rest env H nx k := rfl
theorem guardQ_undef (o : Oper) (want : Bool) : guardQ (some undef) want P lo ops o rest env H nx k = aops P lo ops rest (push env o.dst undef) H nx k := by simp [guardQ, wantV, undef]
theorem guardQ_tt (o : Oper) : guardQ (some (.bool true)) true P lo ops o rest env H nx k = bop P lo o env H nx (aopsK P lo ops rest env o.dst k) := by simp [guardQ, wantV]
theorem guardQ_ff (o : Oper) : guardQ (some (.bool false)) false P lo ops o rest env H nx k = bop P lo o env H nx (aopsK P lo ops rest env o.dst k) := by simp [guardQ, wantV]
theorem guardQ_tf (o : Oper) : guardQ (some (.bool true)) false P lo ops o rest env H nx k = aops P lo ops rest (push env o.dst undef) H nx k := by simp [guardQ, wantV]
theorem guardQ_ft (o : Oper) : guardQ (some (.bool false)) true P lo ops o rest env H nx k = aops P lo ops rest (push env o.dst undef) H nx k := by simp [guardQ, wantV]
theorem guardQ_split {b want : Bool} {o : Oper} (h1 : b = true → guardQ (some (.bool true)) want P lo ops o rest env H nx k) (h2 : b = false → guardQ (some (.bool false)) want P lo ops o rest env H nx k) : guardQ (some (.bool b)) want P lo ops o rest env H nx k := by
  cases b
  · exact h2 rfl
  · exact h1 rfl

variable {guard : Option (Nat × Bool)}
theorem bop_move (x : Operand) : bop P lo { dst, op := .move x, type, pos, after, guard } env H nx K = onV (ev env x) K H nx := ex_onV
theorem bop_assign (x : Operand) : bop P lo { dst, op := .assign x, type, pos, after, guard } env H nx K = onV (ev env x) K H nx := ex_onV
theorem bop_pick (c a b : Operand) : bop P lo { dst, op := .pick c a b, type, pos, after, guard } env H nx K = onV (((ev env c).bind fun u => (ev env a).bind fun v => (ev env b).bind fun w => pickV u v w)) K H nx := ex_onV
theorem bop_nilCheck (x : Operand) : bop P lo { dst, op := .nilCheck x, type, pos, after, guard } env H nx K = onV ((ev env x).bind nilV) K H nx := ex_onV
theorem bop_binOp (op : BinOp) (t : TypeId) (x y : Operand) (yt : TypeId) : bop P lo { dst, op := .binOp op t x y yt, type, pos, after, guard } env H nx K = onV (((ev env x).bind fun a => (ev env y).bind fun b => binV P H op t x y a b)) K H nx := ex_onV
theorem bop_unOp (op : UnOp) (t : TypeId) (x : Operand) : bop P lo { dst, op := .unOp op t x, type, pos, after, guard } env H nx K = onV ((ev env x).bind (unV P H op)) K H nx := ex_onV
theorem bop_load (t : TypeId) (x : Operand) : bop P lo { dst, op := .load t x, type, pos, after, guard } env H nx K = onV ((ev env x).bind (loadV P H t)) K H nx := ex_onV
theorem bop_fieldAddr (s : TypeId) (x : Operand) (f : Nat) : bop P lo { dst, op := .fieldAddr s x f, type, pos, after, guard } env H nx K = onV ((ev env x).bind (fieldAV P H s f)) K H nx := ex_onV
theorem bop_field (s : TypeId) (x : Operand) (f : Nat) : bop P lo { dst, op := .field s x f, type, pos, after, guard } env H nx K = onV ((ev env x).bind (fieldV P H s f)) K H nx := ex_onV
theorem bop_indexAddr (t : TypeId) (x i : Operand) : bop P lo { dst, op := .indexAddr t x i, type, pos, after, guard } env H nx K = onV (((ev env x).bind fun a => (ev env i).bind fun b => indexAV P H t a b)) K H nx := ex_onV
theorem bop_index (t : TypeId) (x i : Operand) : bop P lo { dst, op := .index t x i, type, pos, after, guard } env H nx K = onV (((ev env x).bind fun a => (ev env i).bind fun b => indexV P H t a b)) K H nx := ex_onV
theorem bop_extract (x : Operand) (i : Nat) : bop P lo { dst, op := .extract x i, type, pos, after, guard } env H nx K = onV (((ev env x).bind fun a => extractV P H a i)) K H nx := ex_onV
theorem bop_slice (t : TypeId) (x : Operand) (l h m : Option Operand) : bop P lo { dst, op := .slice t x l h m, type, pos, after, guard } env H nx K =
    onV ((ev env x).bind fun a => (evo env l).bind fun l => (evo env h).bind fun h => (evo env m).bind fun m => sliceV P H t a l h m) K H nx := ex_onV
theorem bop_lookup (t : TypeId) (x i : Operand) (ok : Bool) : bop P lo { dst, op := .lookup t x i ok, type, pos, after, guard } env H nx K = onV (((ev env x).bind fun a => (ev env i).bind fun b => lookupV P H t a b ok)) K H nx := ex_onV
theorem bop_build (t : TypeId) (ps : Array (Nat × Operand)) : bop P lo { dst, op := .build t ps, type, pos, after, guard } env H nx K = onV (((evp env ps.toList).bind fun l => buildV P H t l.toArray)) K H nx := ex_onV
theorem bop_makeFunc (fn : Fn) (a b : Array Operand) : bop P lo { dst, op := .makeFunc fn a b, type, pos, after, guard } env H nx K = onV (((evs env a.toList).bind fun l => (evs env b.toList).bind fun r => makeFV fn l.toArray r.toArray)) K H nx := ex_onV
theorem bop_len (args : Array Operand) (ts : Array TypeId) : bop P lo { dst, op := .call { callee := .builtin .len, args, argTypes := ts }, type, pos, after, guard } env H nx K = onV (((evs env args.toList).bind fun l => lenV P H ts type l.toArray)) K H nx := ex_onV
theorem bop_min (args : Array Operand) (ts : Array TypeId) : bop P lo { dst, op := .call { callee := .builtin .min, args, argTypes := ts }, type, pos, after, guard } env H nx K = onV (((evs env args.toList).bind fun l => minV P H ts type l.toArray)) K H nx := ex_onV
theorem bop_max (args : Array Operand) (ts : Array TypeId) : bop P lo { dst, op := .call { callee := .builtin .max, args, argTypes := ts }, type, pos, after, guard } env H nx K = onV (((evs env args.toList).bind fun l => maxV P H ts type l.toArray)) K H nx := ex_onV
theorem bop_convert (s d : TypeId) (x : Operand) : bop P lo { dst, op := .convert s d x, type, pos, after, guard } env H nx K = onA (ev env x) (fun a => convQ P lo s d a K H nx) := ex_onA
theorem bop_store (t : TypeId) (x y : Operand) : bop P lo { dst, op := .store t x y, type, pos, after, guard } env H nx K = onA (ev env x) (fun a => onA (ev env y) fun v => storeQ P lo t a v (K undef) H nx) := by
  simp only [← ex_onA]; rfl
theorem bop_alloc (t : TypeId) : bop P lo { dst, op := .alloc t, type, pos, after, guard } env H nx K = allocQ P lo t K H nx := (rfl)
theorem bop_box (t : TypeId) (x : Operand) : bop P lo { dst, op := .box t x, type, pos, after, guard } env H nx K = onA (ev env x) (fun v => boxQ P lo t v K H nx) := ex_onA
theorem bop_buildSlice (t : TypeId) (n : Nat) (ps : Array (Nat × Operand)) : bop P lo { dst, op := .buildSlice t n ps, type, pos, after, guard } env H nx K = onA (evp env ps.toList) (fun l => buildSQ P lo t n l.toArray K H nx) := ex_onA
theorem bop_call (f : Operand) (args : Array Operand) (ts : Array TypeId) : bop P lo { dst, op := .call { callee := .value f, args, argTypes := ts }, type, pos, after, guard } env H nx K = onA (ev env f) (fun g => onA (evs env args.toList) fun l => callQ P lo g l K H nx) := by
  simp only [← ex_onA]; rfl
theorem bop_append (args : Array Operand) (ts : Array TypeId) : bop P lo { dst, op := .call { callee := .builtin .append, args, argTypes := ts }, type, pos, after, guard } env H nx K =
    onA (evs env args.toList) (fun l => builtQ P lo .append ts type (args.map fun | .const _ => true | _ => false) l K H nx) := ex_onA

theorem ev_tmp (t : Tmp) : ev env (.tmp t) = eg env t := (rfl)
theorem ev_const (v : Value) : ev env (.const v) = some v := (rfl)
theorem ev_func (f : FuncId) : ev env (.func f) = some (.func (.func f) #[] #[]) := (rfl)
theorem eg_cons (s t : Nat) (v : Value) : eg ((s, v) :: env) t = if s = t then some v else eg env t := (rfl)
theorem eg_nil (t : Nat) : eg [] t = none := (rfl)
theorem push_some (d : Tmp) (v : Value) : push env (some d) v = (d, v) :: env := (rfl)
theorem push_none (v : Value) : push env none v = env := (rfl)
theorem prune_nil : prune [] env = [] := (rfl)
theorem prune_cons (t : Nat) (l : List Nat) : prune (t :: l) env = match eg env t with | some v => (t, v) :: prune l env | none => prune l env := (rfl)
theorem evs_nil : evs env [] = some [] := (rfl)
theorem evs_cons (x : Operand) (l : List Operand) : evs env (x :: l) = (ev env x).bind fun v => (evs env l).bind fun l => some (v :: l) := (rfl)
theorem evp_nil : evp env [] = some [] := (rfl)
theorem evp_cons (i : Nat) (x : Operand) (l : List (Nat × Operand)) : evp env ((i, x) :: l) = (ev env x).bind fun v => (evp env l).bind fun l => some ((i, v) :: l) := (rfl)
theorem evo_none : evo env none = some none := (rfl)
theorem evo_some (x : Operand) : evo env (some x) = (ev env x).bind fun v => some (some v) := (rfl)
theorem argEnv_nil (i : Nat) : argEnv i [] = [] := (rfl)
theorem argEnv_cons (i : Nat) (v : Value) (l : List Value) : argEnv i (v :: l) = (i, v) :: argEnv (i + 1) l := (rfl)

/-- A call of a function that the text names. -/
theorem callQ_func (n : Nat) (l : List Value) : callQ P lo (.func (.func n) #[] #[]) l K H nx =
    (if fnOk P n = true then ACalls P lo n l.toArray H nx K else externQ P lo n l.toArray K H nx) := by
  show (if fnOk P n = true then ACalls P lo n ((#[] ++ l.toArray) ++ #[]) H nx K else externQ P lo n ((#[] ++ l.toArray) ++ #[]) K H nx) = _
  rw [Array.empty_append, Array.append_empty]

theorem put_same (b o : Nat) (v : Value) : (H.put b o v).c b o = some v := by simp [AH.put]
theorem put_other (b o b' o' : Nat) (v : Value) (h : b' ≠ b ∨ o' ≠ o) : (H.put b o v).c b' o' = H.c b' o' := by
  simp only [AH.put]; rw [if_neg (by omega)]
theorem put_o (b o b' : Nat) (v : Value) : (H.put b o v).o b' = H.o b' := (rfl)
theorem put_t (b o b' : Nat) (v : Value) : (H.put b o v).t b' = H.t b' := (rfl)
theorem new_same (n o' : Nat) (vs : Array Value) (e : TypeId) : (H.new n vs e).c n o' = vs[o']? := by simp [AH.new]
theorem new_other (n b' o' : Nat) (vs : Array Value) (e : TypeId) (h : b' ≠ n) : (H.new n vs e).c b' o' = H.c b' o' := by
  simp only [AH.new]; rw [if_neg h]
theorem new_o (n b' : Nat) (vs : Array Value) (e : TypeId) (h : b' ≠ n) : (H.new n vs e).o b' = H.o b' := by
  simp only [AH.new]; rw [if_neg h]
theorem new_t_same (n : Nat) (vs : Array Value) (e : TypeId) : (H.new n vs e).t n = some (e, vs.size) := by simp [AH.new]
theorem new_t_other (n b' : Nat) (vs : Array Value) (e : TypeId) (h : b' ≠ n) : (H.new n vs e).t b' = H.t b' := by
  simp only [AH.new]; rw [if_neg h]

theorem aw_then {α β : Type} (s : Sem α) (f : α → Sem β) (K : β → AH → Nat → Prop) : aw P lo (s >>= f) K H nx = aw P lo s (fun a H nx => aw P lo (f a) K H nx) H nx := propext (aw_bind P lo s f K H nx)
theorem aw_pure {α : Type} (a : α) (K : α → AH → Nat → Prop) : aw P lo (pure a : Sem α) K H nx = K a H nx := (rfl)
theorem aw_known {α : Type} {s : Sem α} {a : α} {K : α → AH → Nat → Prop} (h : peek P H s = some a) (hk : K a H nx) : aw P lo s K H nx := aw_peek h hk

end

/-! ### Ends -/
section
variable {P : Program} {fn : Func} {R : Value → AH → Nat → Prop} {env : Env} {H : AH} {nx : Nat}
theorem retQ_normal : retQ P fn R .normal env H nx = retQ P fn R .ret env H nx := (rfl)

theorem retQ_none (h : fn.results = #[]) : retQ P fn R .ret env H nx = R (.tuple #[]) H nx := by
  simp only [retQ, resKnown, results, h, eq_iff_iff]
  simp [peek_pure]

theorem retQ_one {d : Nat} (h : fn.results = #[.tmp d]) (hd : d < fn.ntmps) : retQ P fn R .ret env H nx = onV (eg env d) R H nx := by
  rw [← ex_onV]
  simp only [retQ, resKnown, results, h, eq_iff_iff]
  have := envArr_get fn.ntmps env d hd
  simp only [Array.getD_eq_getD_getElem?] at this
  constructor
  · rintro ⟨h1, v, h2, h3⟩
    simp at h1
    obtain ⟨u, hu⟩ := Option.isSome_iff_exists.1 h1
    refine ⟨u, hu, ?_⟩
    simp [peek_pure] at h2
    rw [this, hu] at h2
    simp at h2
    subst h2
    exact h3
  · rintro ⟨v, h1, h2⟩
    refine ⟨by simp [h1], v, ?_, h2⟩
    simp [peek_pure]
    rw [this, h1]; rfl

theorem retQ_two {d e : Nat} (h : fn.results = #[.tmp d, .tmp e]) (hd : d < fn.ntmps) (he : e < fn.ntmps) : retQ P fn R .ret env H nx = onA (eg env d) (fun v => onA (eg env e) fun u => R (.tuple #[v, u]) H nx) := by
  simp only [← ex_onA]
  simp only [retQ, resKnown, results, h, eq_iff_iff]
  have t1 := envArr_get fn.ntmps env d hd
  have t2 := envArr_get fn.ntmps env e he
  simp only [Array.getD_eq_getD_getElem?] at t1 t2
  constructor
  · rintro ⟨h1, v, h2, h3⟩
    simp at h1
    obtain ⟨u, hu⟩ := Option.isSome_iff_exists.1 h1.1
    obtain ⟨u', hu'⟩ := Option.isSome_iff_exists.1 h1.2
    refine ⟨u, hu, u', hu', ?_⟩
    simp [peek_pure] at h2
    rw [t1, t2, hu, hu'] at h2
    simp at h2
    subst h2
    exact h3
  · rintro ⟨v, h1, u, h2, h3⟩
    refine ⟨by simp [h1, h2], _, ?_, h3⟩
    simp [peek_pure]
    rw [t1, t2, h1, h2]; simp
end

attribute [go_sem] Option.bind_some Option.bind_none Option.some.injEq Value.bool.injEq if_pos if_neg ite_true ite_false guardB List.getElem?_toArray List.getElem?_cons_zero List.getElem?_cons_succ Nat.zero_add Nat.add_zero reduceCtorEq
attribute [go_sem] awp_seq awp_skip awp_ret awp_exit awp_block awp_region awp_cond thenQ_normal thenQ_ret thenQ_exit blockQ_normal blockQ_ret blockQ_exit aops_nil aops_cons aops_guard aopsK_app regK_app condQ_true condQ_false guardQ_undef guardQ_tt guardQ_tf guardQ_ft guardQ_ff bop_move bop_assign bop_pick bop_nilCheck bop_binOp bop_unOp bop_load bop_fieldAddr bop_field bop_indexAddr bop_index bop_extract bop_slice bop_lookup bop_build bop_makeFunc bop_len bop_min bop_max bop_convert bop_store bop_alloc bop_box bop_buildSlice bop_call bop_append onV_some onA_some ev_tmp ev_const ev_func eg_cons eg_nil push_some push_none prune_nil prune_cons evs_nil evs_cons evp_nil evp_cons evo_none evo_some argEnv_nil argEnv_cons callQ_func put_same put_other put_o put_t new_same new_other new_o new_t_same new_t_other binV_add binV_sub binV_mul binV_quo binV_rem binV_eql binV_neq binV_lss binV_leq binV_gtr binV_geq unV_not pickV_bool nilV_ptr loadN_zero loadN_succ extractV_eq retQ_normal

end Go.Proofs.Ytgafnliohmdmoaa
