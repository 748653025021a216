/- OUR OWN LOGIC OVER THE KIT'S. 3: codes. What is known of temporaries is a list; an operation by 'aw'; a region in the text's order, or, where it draws, in an order that is shown to be as good as any; conditions, blocks, loops with a relation, calls by contracts. Nothing of the program stands here. -/
import Derived.Test.YtngnbafididkcaaGreatL2
namespace Go.Proofs.YtngnbafididkcaaGreat
open Go.RowKit

abbrev Env := List (Nat × Value)

def eg : Env → Nat → Option Value
  | [], _ => none
  | (k, v) :: r, t => if k = t then some v else eg r t

def ev (env : Env) : Operand → Option Value
  | .tmp t => eg env t
  | .const v => some v
  | .global g => some (.pointer (some ⟨g, 0, none⟩))
  | .func f => some (.func (.func f) #[] #[])

def aev (env : Env) (x : Operand) : Value := (ev env x).getD undef

def known (env : Env) (o : Oper) : Bool := o.op.operands.all fun x => (ev env x).isSome

def push (env : Env) (dst : Option Tmp) (v : Value) : Env :=
  match dst with
  | some d => (d, v) :: env
  | none => env

def prune : List Nat → Env → Env
  | [], _ => []
  | t :: L, env => match eg env t with
    | some v => (t, v) :: prune L env
    | none => prune L env

structure EnvRel (N : Nat) (env : Env) (a : Act) : Prop where
  size : a.tmps.size = N
  defers : a.defers = []
  tmp : ∀ t v, eg env t = some v → a.tmps.getD t undef = v

/-- A contract: called so, by what is known, the function returns v, and H' is known then. -/
def ACalls (P : Program) (lo : Nat) (f : FuncId) (args : Array Value) (H : AH) (nx : Nat) (R : Value → AH → Nat → Prop) : Prop :=
  ∀ w, Rel lo H nx w → Calls P f args w fun e w' => ∃ v H' nx', e = .returned v ∧ R v H' nx' ∧ Rel lo H' nx' w' ∧ BelowD lo w w' ∧ nx ≤ nx'

theorem ACalls.mono {P : Program} {lo : Nat} {f : FuncId} {args : Array Value} {H : AH} {nx : Nat} {R R' : Value → AH → Nat → Prop} (h : ACalls P lo f args H nx R)
    (hr : ∀ v H' nx', nx ≤ nx' → R v H' nx' → R' v H' nx') : ACalls P lo f args H nx R' :=
  fun w hw => (h w hw).mono fun _ _ ⟨v, H', nx', h1, h2, h3, h4, h5⟩ => ⟨v, H', nx', h1, hr _ _ _ h5 h2, h3, h4, h5⟩

/-- What an operation leaves. -/
def nextQ (P : Program) (lo : Nat) (K : Value → AH → Nat → Prop) : Next → AH → Nat → Prop
  | .value v, H, nx => K v H nx
  | .skip, H, nx => K undef H nx
  | .enter f args, H, nx => ACalls P lo f args H nx K
  | _, _, _ => False

def aop (P : Program) (lo : Nat) (o : Oper) (env : Env) (H : AH) (nx : Nat) (K : Value → AH → Nat → Prop) : Prop :=
  known env o = true ∧ (∀ cs b, o.op ≠ .select cs b) ∧ aw P lo (execOp (aev env) o) (nextQ P lo K) H nx

/-! ### What an operation yields that only looks: by its operands' values -/
def valOf (P : Program) (H : AH) (s : Sem Value) : Option Value := peek P H s

def pickV (c a b : Value) : Option Value := match c with
  | .bool t => some (if t = true then a else b)
  | _ => none
def nilV (x : Value) : Option Value := match x with
  | .pointer (some a) => some (.pointer (some a))
  | .func (.func f) a b => some (.func (.func f) a b)
  | _ => none
def binV (P : Program) (H : AH) (op : BinOp) (t : TypeId) (x y : Operand) (a b : Value) : Option Value := valOf P H (do eqGuard op t x y a b; binOp op t a b)
def unV (P : Program) (H : AH) (op : UnOp) (a : Value) : Option Value := valOf P H (Op.unary op a)
def convV (P : Program) (H : AH) (s d : TypeId) (a : Value) : Option Value := valOf P H (convert s d a)
def loadV (P : Program) (H : AH) (t : TypeId) (a : Value) : Option Value := valOf P H (Instr.loadAt t a)
def fieldAV (P : Program) (H : AH) (s : TypeId) (f : Nat) (a : Value) : Option Value := valOf P H (Instr.fieldAt s a f)
def fieldV (P : Program) (H : AH) (s : TypeId) (f : Nat) (a : Value) : Option Value := valOf P H (Instr.field s a f)
def indexAV (P : Program) (H : AH) (t : TypeId) (a i : Value) : Option Value := valOf P H (Instr.indexAt t a i)
def indexV (P : Program) (H : AH) (t : TypeId) (a i : Value) : Option Value := valOf P H (Instr.index t a i)
def extractV (P : Program) (H : AH) (a : Value) (i : Nat) : Option Value := valOf P H (Instr.extract a i)
def sliceV (P : Program) (H : AH) (t : TypeId) (a : Value) (l h m : Option Value) : Option Value := valOf P H (Instr.sliceAt t a l h m)
def lookupV (P : Program) (H : AH) (t : TypeId) (a i : Value) (ok : Bool) : Option Value := valOf P H (Instr.lookup t a i ok)
def buildV (P : Program) (H : AH) (t : TypeId) (ps : Array (Nat × Value)) : Option Value := valOf P H (Instr.build t ps)
def makeFV (fn : Fn) (a b : Array Value) : Option Value := some (.func fn a b)
def lenV (P : Program) (H : AH) (ts : Array TypeId) (t : TypeId) (xs : Array Value) : Option Value := valOf P H (Builtin.len_ ts t xs)
def minV (P : Program) (H : AH) (ts : Array TypeId) (t : TypeId) (xs : Array Value) : Option Value := valOf P H (Builtin.min_ ts t xs)
def maxV (P : Program) (H : AH) (ts : Array TypeId) (t : TypeId) (xs : Array Value) : Option Value := valOf P H (Builtin.max_ ts t xs)

def evs (env : Env) : List Operand → Option (List Value)
  | [] => some []
  | x :: r => (ev env x).bind fun v => (evs env r).bind fun l => some (v :: l)
def evo (env : Env) : Option Operand → Option (Option Value)
  | none => some none
  | some x => (ev env x).bind fun v => some (some v)
def evp (env : Env) : List (Nat × Operand) → Option (List (Nat × Value))
  | [] => some []
  | (i, x) :: r => (ev env x).bind fun v => (evp env r).bind fun l => some ((i, v) :: l)

def qv (P : Program) (H : AH) (env : Env) (o : Oper) : Option Value := match o.op with
  | .move x | .assign x => ev env x
  | .pick c a b => (ev env c).bind fun u => (ev env a).bind fun v => (ev env b).bind fun w => pickV u v w
  | .nilCheck x => (ev env x).bind nilV
  | .binOp op t x y _ => (ev env x).bind fun a => (ev env y).bind fun b => binV P H op t x y a b
  | .unOp op _ x => (ev env x).bind (unV P H op)
  | .convert s d x => (ev env x).bind (convV P H s d)
  | .load t x => (ev env x).bind (loadV P H t)
  | .fieldAddr s x f => (ev env x).bind (fieldAV P H s f)
  | .field s x f => (ev env x).bind (fieldV P H s f)
  | .indexAddr t x i => (ev env x).bind fun a => (ev env i).bind fun b => indexAV P H t a b
  | .index t x i => (ev env x).bind fun a => (ev env i).bind fun b => indexV P H t a b
  | .extract x i => (ev env x).bind fun a => extractV P H a i
  | .slice t x l h m => (ev env x).bind fun a => (evo env l).bind fun l => (evo env h).bind fun h => (evo env m).bind fun m => sliceV P H t a l h m
  | .lookup t x i ok => (ev env x).bind fun a => (ev env i).bind fun b => lookupV P H t a b ok
  | .build t ps => (evp env ps.toList).bind fun l => buildV P H t l.toArray
  | .makeFunc fn a b => (evs env a.toList).bind fun l => (evs env b.toList).bind fun r => makeFV fn l.toArray r.toArray
  | .call { callee := .builtin .len, args, argTypes } => (evs env args.toList).bind fun l => lenV P H argTypes o.type l.toArray
  | .call { callee := .builtin .min, args, argTypes } => (evs env args.toList).bind fun l => minV P H argTypes o.type l.toArray
  | .call { callee := .builtin .max, args, argTypes } => (evs env args.toList).bind fun l => maxV P H argTypes o.type l.toArray
  | _ => none

def pureOp : Op → Bool
  | .move _ | .assign _ | .pick .. | .nilCheck _ | .binOp .. | .unOp .. | .fieldAddr .. | .field .. | .indexAddr .. | .index .. | .extract .. | .slice .. | .build .. | .makeFunc .. => true
  | .call { callee := .builtin .len, .. } | .call { callee := .builtin .min, .. } | .call { callee := .builtin .max, .. } => true
  | _ => false
def readOp : Op → Bool
  | .load .. | .lookup .. | .convert .. => true
  | _ => false

/-! ### What writes, or calls -/
def storeQ (P : Program) (lo : Nat) (t : TypeId) (a v : Value) (K : AH → Nat → Prop) (H : AH) (nx : Nat) : Prop := aw P lo (Instr.storeAt t a v) (fun _ => K) H nx
def allocQ (P : Program) (lo : Nat) (t : TypeId) (K : Value → AH → Nat → Prop) (H : AH) (nx : Nat) : Prop := aw P lo (Instr.alloc t true (.tuple #[])) K H nx
def boxQ (P : Program) (lo : Nat) (t : TypeId) (v : Value) (K : Value → AH → Nat → Prop) (H : AH) (nx : Nat) : Prop := aw P lo (Instr.box t v) K H nx
def buildSQ (P : Program) (lo : Nat) (t : TypeId) (n : Nat) (ps : Array (Nat × Value)) (K : Value → AH → Nat → Prop) (H : AH) (nx : Nat) : Prop := aw P lo (Instr.buildSlice t n ps) K H nx
def convQ (P : Program) (lo : Nat) (s d : TypeId) (a : Value) (K : Value → AH → Nat → Prop) (H : AH) (nx : Nat) : Prop := aw P lo (convert s d a) K H nx
def fnOk (P : Program) (n : Nat) : Bool := match P.funcs[n]? with | some fn => !(fn.name == "runtime.NumGoroutine") && !fn.body.isNone | none => false

/-- A function without a text: what the model says it does. -/
def externQ (P : Program) (lo : Nat) (n : Nat) (args : Array Value) (K : Value → AH → Nat → Prop) (H : AH) (nx : Nat) : Prop := aw P lo (callFunc n args) (nextQ P lo K) H nx
def callQ (P : Program) (lo : Nat) (f : Value) (xs : List Value) (K : Value → AH → Nat → Prop) (H : AH) (nx : Nat) : Prop :=
  match f with
  | .func (.func n) first captured => if fnOk P n = true then ACalls P lo n ((first ++ xs.toArray) ++ captured) H nx K else externQ P lo n ((first ++ xs.toArray) ++ captured) K H nx
  | _ => False
/-- A built-in function that writes. -/
def builtQ (P : Program) (lo : Nat) (b : Builtin) (ts : Array TypeId) (t : TypeId) (consts : Array Bool) (xs : List Value) (K : Value → AH → Nat → Prop) (H : AH) (nx : Nat) : Prop :=
  aw P lo (builtin b ts t consts xs.toArray) (nextQ P lo K) H nx

def bop (P : Program) (lo : Nat) (o : Oper) (env : Env) (H : AH) (nx : Nat) (K : Value → AH → Nat → Prop) : Prop :=
  match o.op with
  | .convert s d x => ∃ a, ev env x = some a ∧ convQ P lo s d a K H nx
  | .store t x y => ∃ a, ev env x = some a ∧ ∃ v, ev env y = some v ∧ storeQ P lo t a v (K undef) H nx
  | .alloc t => allocQ P lo t K H nx
  | .box t x => ∃ v, ev env x = some v ∧ boxQ P lo t v K H nx
  | .buildSlice t n ps => ∃ l, evp env ps.toList = some l ∧ buildSQ P lo t n l.toArray K H nx
  | .call { callee := .value f, args, .. } => ∃ g, ev env f = some g ∧ ∃ l, evs env args.toList = some l ∧ callQ P lo g l K H nx
  | .call { callee := .builtin b, args, argTypes } =>
    if pureOp o.op = true then ∃ v, qv P H env o = some v ∧ K v H nx
    else ∃ l, evs env args.toList = some l ∧ builtQ P lo b argTypes o.type (args.map fun | .const _ => true | _ => false) l K H nx
  | op => if (pureOp op || readOp op) = true then ∃ v, qv P H env o = some v ∧ K v H nx else aop P lo o env H nx K

/-! ### 'bop' says no more than 'aop' -/
theorem ev_aev {env : Env} {x : Operand} {v : Value} (h : ev env x = some v) : aev env x = v := by unfold aev; rw [h]; rfl

theorem evs_spec {env : Env} : ∀ {l : List Operand} {r : List Value}, evs env l = some r → l.map (aev env) = r ∧ ∀ x ∈ l, (ev env x).isSome = true
  | [], r, h => by simp only [evs, Option.some.injEq] at h; subst h; simp
  | x :: l, r, h => by
    simp only [evs, Option.bind_eq_some_iff] at h
    obtain ⟨v, hv, r', hr, h⟩ := h
    simp only [Option.some.injEq] at h
    subst h
    obtain ⟨h1, h2⟩ := evs_spec hr
    refine ⟨by simp [ev_aev hv, h1], fun y hy => ?_⟩
    rcases List.mem_cons.1 hy with rfl | hy
    · rw [hv]; rfl
    · exact h2 y hy

theorem evp_spec {env : Env} : ∀ {l : List (Nat × Operand)} {r : List (Nat × Value)}, evp env l = some r → l.map (fun p => (p.1, aev env p.2)) = r ∧ ∀ p ∈ l, (ev env p.2).isSome = true
  | [], r, h => by simp only [evp, Option.some.injEq] at h; subst h; simp
  | (i, x) :: l, r, h => by
    simp only [evp, Option.bind_eq_some_iff] at h
    obtain ⟨v, hv, r', hr, h⟩ := h
    simp only [Option.some.injEq] at h
    subst h
    obtain ⟨h1, h2⟩ := evp_spec hr
    refine ⟨by simp [ev_aev hv, h1], fun y hy => ?_⟩
    rcases List.mem_cons.1 hy with rfl | hy
    · simp only; rw [hv]; rfl
    · exact h2 y hy

theorem known_iff {env : Env} {o : Oper} : known env o = true ↔ ∀ x ∈ o.op.operands.toList, (ev env x).isSome = true := by
  unfold known
  rw [← Array.all_toList, List.all_eq_true]

theorem evo_spec {env : Env} {x : Option Operand} {r : Option Value} (h : evo env x = some r) : x.map (aev env) = r ∧ ∀ y ∈ x.toArray.toList, (ev env y).isSome = true := by
  cases x with
  | none => simp only [evo, Option.some.injEq] at h; subst h; simp
  | some x =>
    simp only [evo, Option.bind_eq_some_iff, Option.some.injEq] at h
    obtain ⟨v, hv, rfl⟩ := h
    simp [ev_aev hv, hv]

theorem peek_map {α : Type} {P : Program} {H : AH} {s : Sem Value} {f : Value → Sem α} : peek P H (s >>= f) = (peek P H s).bind fun a => peek P H (f a) := peek_bind P H s f

theorem qv_peek {P : Program} {H : AH} {env : Env} {o : Oper} {v : Value} (h : qv P H env o = some v) : known env o = true ∧ peek P H (execOp (aev env) o) = some (.value v) := by
  obtain ⟨dst, op, type, pos, after, guard⟩ := o
  have one : ∀ (s : Sem Value), valOf P H s = some v → peek P H (do let a ← s; pure (Next.value a)) = some (.value v) := fun s hs => by
    rw [peek_map]; unfold valOf at hs; rw [hs]; rfl
  have two : ∀ {x : Operand} {f : Value → Option Value}, (ev env x).bind f = some v → ∃ a, ev env x = some a ∧ f a = some v := fun h => by
    obtain ⟨a, ha, h⟩ := Option.bind_eq_some_iff.1 h
    exact ⟨a, ha, h⟩
  cases op with
  | move x => exact ⟨by rw [known_iff]; have h' : ev env x = some v := h; simp [Op.operands, h'], by have h' : ev env x = some v := h; simp [execOp, ev_aev h', peek, pure]⟩
  | assign x => exact ⟨by rw [known_iff]; have h' : ev env x = some v := h; simp [Op.operands, h'], by have h' : ev env x = some v := h; simp [execOp, ev_aev h', peek, pure]⟩
  | pick c a b =>
    obtain ⟨u, hu, h⟩ := two h
    obtain ⟨x, hx, h⟩ := two h
    obtain ⟨y, hy, h⟩ := two h
    refine ⟨by rw [known_iff]; simp [Op.operands, hu, hx, hy], ?_⟩
    unfold pickV at h
    cases u <;> simp only [Option.some.injEq, reduceCtorEq] at h
    rename_i t
    subst h
    simp [execOp, ev_aev hu, ev_aev hx, ev_aev hy, asBool, peek, pure, bind, Sem.bind]
  | nilCheck x =>
    obtain ⟨a, ha, h⟩ := two h
    refine ⟨by rw [known_iff]; simp [Op.operands, ha], ?_⟩
    unfold nilV at h
    split at h
    · simp only [Option.some.injEq] at h; subst h; simp [execOp, ev_aev ha, peek, pure]
    · simp only [Option.some.injEq] at h; subst h; simp [execOp, ev_aev ha, peek, pure]
    · cases h
  | binOp op t x y yt =>
    obtain ⟨a, ha, h⟩ := two h
    obtain ⟨b, hb, h⟩ := two h
    refine ⟨by rw [known_iff]; simp [Op.operands, ha, hb], ?_⟩
    simp only [execOp, ev_aev ha, ev_aev hb]; exact one _ h
  | unOp op t x =>
    obtain ⟨a, ha, h⟩ := two h
    refine ⟨by rw [known_iff]; simp [Op.operands, ha], ?_⟩
    simp only [execOp, ev_aev ha]; exact one _ h
  | convert s d x =>
    obtain ⟨a, ha, h⟩ := two h
    refine ⟨by rw [known_iff]; simp [Op.operands, ha], ?_⟩
    simp only [execOp, ev_aev ha]; exact one _ h
  | load t x =>
    obtain ⟨a, ha, h⟩ := two h
    refine ⟨by rw [known_iff]; simp [Op.operands, ha], ?_⟩
    simp only [execOp, ev_aev ha]; exact one _ h
  | fieldAddr s x f =>
    obtain ⟨a, ha, h⟩ := two h
    refine ⟨by rw [known_iff]; simp [Op.operands, ha], ?_⟩
    simp only [execOp, ev_aev ha]; exact one _ h
  | field s x f =>
    obtain ⟨a, ha, h⟩ := two h
    refine ⟨by rw [known_iff]; simp [Op.operands, ha], ?_⟩
    simp only [execOp, ev_aev ha]; exact one _ h
  | indexAddr t x i =>
    obtain ⟨a, ha, h⟩ := two h
    obtain ⟨b, hb, h⟩ := two h
    refine ⟨by rw [known_iff]; simp [Op.operands, ha, hb], ?_⟩
    simp only [execOp, ev_aev ha, ev_aev hb]; exact one _ h
  | index t x i =>
    obtain ⟨a, ha, h⟩ := two h
    obtain ⟨b, hb, h⟩ := two h
    refine ⟨by rw [known_iff]; simp [Op.operands, ha, hb], ?_⟩
    simp only [execOp, ev_aev ha, ev_aev hb]; exact one _ h
  | extract x i =>
    obtain ⟨a, ha, h⟩ := two h
    refine ⟨by rw [known_iff]; simp [Op.operands, ha], ?_⟩
    simp only [execOp, ev_aev ha]; exact one _ h
  | lookup t x i ok =>
    obtain ⟨a, ha, h⟩ := two h
    obtain ⟨b, hb, h⟩ := two h
    refine ⟨by rw [known_iff]; simp [Op.operands, ha, hb], ?_⟩
    simp only [execOp, ev_aev ha, ev_aev hb]; exact one _ h
  | slice t x l hi m =>
    obtain ⟨a, ha, h⟩ := two h
    obtain ⟨l', hl, h⟩ := Option.bind_eq_some_iff.1 h
    obtain ⟨h', hh, h⟩ := Option.bind_eq_some_iff.1 h
    obtain ⟨m', hm, h⟩ := Option.bind_eq_some_iff.1 h
    obtain ⟨l1, l2⟩ := evo_spec hl
    obtain ⟨h1, h2⟩ := evo_spec hh
    obtain ⟨m1, m2⟩ := evo_spec hm
    refine ⟨?_, ?_⟩
    · rw [known_iff]
      intro y hy
      simp only [Op.operands, Array.toList_append, List.mem_append] at hy
      rcases hy with ((hy | hy) | hy) | hy
      · simp at hy; subst hy; rw [ha]; rfl
      · exact l2 y hy
      · exact h2 y hy
      · exact m2 y hy
    · simp only [execOp, ev_aev ha, l1, h1, m1]; exact one _ h
  | build t ps =>
    obtain ⟨l, hl, h⟩ := Option.bind_eq_some_iff.1 h
    obtain ⟨l1, l2⟩ := evp_spec hl
    refine ⟨?_, ?_⟩
    · rw [known_iff]
      intro y hy
      simp only [Op.operands, List.mem_map] at hy
      obtain ⟨p, hp, rfl⟩ := hy
      exact l2 p hp
    · have e : ps.map (fun p => (p.1, aev env p.2)) = l.toArray := by rw [← l1]; apply Array.ext'; simp
      simp only [execOp]
      rw [show (ps.map fun x => match x with | (i, x) => (i, aev env x)) = l.toArray from e]
      exact one _ h
  | makeFunc fn a b =>
    obtain ⟨l, hl, h⟩ := Option.bind_eq_some_iff.1 h
    obtain ⟨r, hr, h⟩ := Option.bind_eq_some_iff.1 h
    obtain ⟨l1, l2⟩ := evs_spec hl
    obtain ⟨r1, r2⟩ := evs_spec hr
    refine ⟨?_, ?_⟩
    · rw [known_iff]
      intro y hy
      simp only [Op.operands, Array.toList_append, List.mem_append] at hy
      rcases hy with hy | hy
      · exact l2 y hy
      · exact r2 y hy
    · have e1 : a.map (aev env) = l.toArray := by rw [← l1]; apply Array.ext'; simp
      have e2 : b.map (aev env) = r.toArray := by rw [← r1]; apply Array.ext'; simp
      simp only [execOp, e1, e2]
      exact one _ h
  | call c =>
    obtain ⟨callee, args, argTypes⟩ := c
    cases callee with
    | value f => simp [qv] at h
    | invoke r m => simp [qv] at h
    | builtin b =>
      have fin : ∀ (l : List Value) (s : Sem Value), evs env args.toList = some l → valOf P H s = some v → builtin b argTypes type (args.map fun | .const _ => true | _ => false) l.toArray = (do let a ← s; pure (Next.value a)) →
          known env { dst, op := .call { callee := .builtin b, args, argTypes }, type, pos, after, guard } = true ∧ peek P H (execOp (aev env) { dst, op := .call { callee := .builtin b, args, argTypes }, type, pos, after, guard }) = some (.value v) := fun l s hl hs hb => by
        obtain ⟨l1, l2⟩ := evs_spec hl
        refine ⟨?_, ?_⟩
        · rw [known_iff]
          intro y hy
          simp only [Op.operands, Call.operands, Array.empty_append] at hy
          exact l2 y hy
        · have e1 : args.map (aev env) = l.toArray := by rw [← l1]; apply Array.ext'; simp
          have e2 : execOp (aev env) { dst, op := .call { callee := .builtin b, args, argTypes }, type, pos, after, guard } = builtin b argTypes type (args.map fun | .const _ => true | _ => false) l.toArray := by
            rw [← e1]; rfl
          rw [e2, hb]
          exact one _ hs
      cases b <;> (try (simp [qv] at h; done))
      case len =>
        obtain ⟨l, hl, h⟩ := Option.bind_eq_some_iff.1 h
        exact fin l _ hl h rfl
      case min =>
        obtain ⟨l, hl, h⟩ := Option.bind_eq_some_iff.1 h
        exact fin l _ hl h rfl
      case max =>
        obtain ⟨l, hl, h⟩ := Option.bind_eq_some_iff.1 h
        exact fin l _ hl h rfl
  | _ => simp [qv] at h

theorem aw_peek {α : Type} {P : Program} {lo : Nat} {s : Sem α} : ∀ {a : α} {K : α → AH → Nat → Prop} {H : AH} {nx : Nat}, peek P H s = some a → K a H nx → aw P lo s K H nx := by
  induction s with
  | pure b => intro a K H nx h hk; simp only [peek, Option.some.injEq] at h; subst h; exact hk
  | load m ad k ih =>
    intro a K H nx h hk
    simp only [peek] at h
    obtain ⟨bl, off, sp⟩ := ad
    cases sp with
    | some x => simp at h
    | none =>
      simp only [Option.isSome_none, Bool.false_eq_true, if_false] at h
      cases hc : H.c bl off with
      | none => rw [hc] at h; simp at h
      | some v => rw [hc] at h; exact ⟨rfl, v, hc, ih v h hk⟩
  | shape r k ih =>
    intro a K H nx h hk
    simp only [peek] at h
    cases ht : H.t r with
    | none => rw [ht] at h; simp at h
    | some x => rw [ht] at h; exact .inl ⟨x, ht, ih _ h hk⟩
  | frozen ad k ih =>
    intro a K H nx h hk
    simp only [peek] at h
    split at h
    · rename_i ht; exact .inl ⟨ht, ih _ h hk⟩
    · cases h
  | getObj r k ih =>
    intro a K H nx h hk
    simp only [peek] at h
    cases ho : H.o r with
    | none => rw [ho] at h; simp at h
    | some ob => rw [ho] at h; exact ⟨ob, ho, ih _ h hk⟩
  | program k ih => intro a K H nx h hk; exact ih P h hk
  | mark m k ih => intro a K H nx h hk; exact ih h hk
  | choose q k ih =>
    intro a K H nx h hk
    simp only [peek] at h
    split at h
    · rename_i hf
      exact ⟨fun _ => ih 0 h hk, fun hf' => by rw [hf] at hf'; cases hf'⟩
    · cases h
  | _ => intro a K H nx h hk; simp [peek] at h

theorem aw_value {P : Program} {lo : Nat} {s : Sem Value} {K : Value → AH → Nat → Prop} {H : AH} {nx : Nat} (h : aw P lo s K H nx) : aw P lo (do let a ← s; pure (Next.value a)) (nextQ P lo K) H nx :=
  (aw_bind P lo s _ _ H nx).2 h

theorem bop_aop {P : Program} {lo : Nat} {o : Oper} {env : Env} {H : AH} {nx : Nat} {K : Value → AH → Nat → Prop} (h : bop P lo o env H nx K) : aop P lo o env H nx K := by
  have quiet : (∃ v, qv P H env o = some v ∧ K v H nx) → (∀ cs b, o.op ≠ .select cs b) → aop P lo o env H nx K := fun ⟨v, hv, hk⟩ hs => by
    obtain ⟨h1, h2⟩ := qv_peek hv
    exact ⟨h1, hs, aw_peek h2 hk⟩
  obtain ⟨dst, op, type, pos, after, guard⟩ := o
  cases op with
  | convert s d x =>
    obtain ⟨a, ha, h⟩ := h
    exact ⟨by rw [known_iff]; simp [Op.operands, ha], by simp, by simp only [execOp, ev_aev ha]; exact aw_value h⟩
  | store t x y =>
    obtain ⟨a, ha, v, hv, h⟩ := h
    exact ⟨by rw [known_iff]; simp [Op.operands, ha, hv], by simp, by simp only [execOp, ev_aev ha, ev_aev hv]; exact (aw_bind P lo _ _ _ H nx).2 h⟩
  | alloc t => exact ⟨by rw [known_iff]; simp [Op.operands], by simp, aw_value h⟩
  | box t x =>
    obtain ⟨a, ha, h⟩ := h
    exact ⟨by rw [known_iff]; simp [Op.operands, ha], by simp, by simp only [execOp, ev_aev ha]; exact aw_value h⟩
  | buildSlice t n ps =>
    obtain ⟨l, hl, h⟩ := h
    obtain ⟨l1, l2⟩ := evp_spec hl
    refine ⟨?_, by simp, ?_⟩
    · rw [known_iff]
      intro y hy
      simp only [Op.operands, List.mem_map] at hy
      obtain ⟨p, hp, rfl⟩ := hy
      exact l2 p hp
    · have e : ps.map (fun p => (p.1, aev env p.2)) = l.toArray := by rw [← l1]; apply Array.ext'; simp
      simp only [execOp]
      rw [show (ps.map fun x => match x with | (i, x) => (i, aev env x)) = l.toArray from e]
      exact aw_value h
  | call c =>
    obtain ⟨callee, args, argTypes⟩ := c
    cases callee with
    | value f =>
      obtain ⟨g, hg, l, hl, h⟩ := h
      obtain ⟨l1, l2⟩ := evs_spec hl
      refine ⟨?_, by simp, ?_⟩
      · rw [known_iff]
        intro y hy
        simp only [Op.operands, Call.operands, Array.toList_append, List.mem_append] at hy
        rcases hy with hy | hy
        · simp at hy; subst hy; rw [hg]; rfl
        · exact l2 y hy
      · have e1 : args.map (aev env) = l.toArray := by rw [← l1]; apply Array.ext'; simp
        unfold callQ at h
        split at h
        · rename_i n first captured
          have e2 : execOp (aev env) { dst, op := .call { callee := .value f, args, argTypes }, type, pos, after, guard } = callFunc n ((first ++ l.toArray) ++ captured) := by
            simp only [execOp, resolve, e1, ev_aev hg, Deferred.ofValue]
            rfl
          rw [e2]
          split at h
          · rename_i hf
            unfold fnOk at hf
            cases hfn : P.funcs[n]? with
            | none => rw [hfn] at hf; cases hf
            | some fn =>
              rw [hfn] at hf
              simp only [Bool.and_eq_true, Bool.not_eq_true'] at hf
              unfold callFunc
              show aw P lo (Sem.program fun p => _) _ H nx
              simp only [aw, Sem.bind, hfn, hf.1, hf.2, Bool.false_eq_true, if_false]
              exact h
          · exact h
        · exact h.elim
    | invoke r m => simpa [bop, pureOp, readOp] using h
    | builtin b =>
      simp only [bop] at h
      split at h
      · exact quiet h (by simp)
      · obtain ⟨l, hl, h⟩ := h
        obtain ⟨l1, l2⟩ := evs_spec hl
        refine ⟨?_, by simp, ?_⟩
        · rw [known_iff]
          intro y hy
          simp only [Op.operands, Call.operands, Array.empty_append] at hy
          exact l2 y hy
        · have e1 : args.map (aev env) = l.toArray := by rw [← l1]; apply Array.ext'; simp
          have e2 : execOp (aev env) { dst, op := .call { callee := .builtin b, args, argTypes }, type, pos, after, guard } = builtin b argTypes type (args.map fun | .const _ => true | _ => false) l.toArray := by
            rw [← e1]; rfl
          rw [e2]; exact h
  | select cs b => simpa [bop, pureOp, readOp] using h
  | _ =>
    simp only [bop] at h
    split at h
    · exact quiet h (by simp)
    · exact h

def guardB (ops : Array Oper) (env : Env) (j : Nat) : Option Value := ((ops[j]?).bind (·.dst)).bind (eg env)
def wantV (want : Bool) : Value → Bool
  | .bool b => b == want
  | _ => false

def aops (P : Program) (lo : Nat) (ops : Array Oper) : List Oper → Env → AH → Nat → (Env → AH → Nat → Prop) → Prop
  | [], env, H, nx, K => K env H nx
  | o :: rest, env, H, nx, K => match o.guard with
    | none => bop P lo o env H nx fun v H nx => aops P lo ops rest (push env o.dst v) H nx K
    | some (j, want) => ∃ b, guardB ops env j = some b ∧
      if wantV want b = true then bop P lo o env H nx fun v H nx => aops P lo ops rest (push env o.dst v) H nx K
      else aops P lo ops rest (push env o.dst undef) H nx K

/-! ### Regions that draw -/
def AH.empty : AH := ⟨fun _ _ => none, fun _ => none, fun _ => none, none⟩

def readAt (ops : Array Oper) (i : Nat) : Bool := match ops[i]? with | some o => readOp o.op | none => false

def anc (ops : Array Oper) : Nat → Nat → Nat → Bool
  | 0, _, _ => false
  | n + 1, j, k => match ops[j]? with
    | some o => o.after.any fun e => Region.binds .any e && (e.on == k || anc ops n e.on k)
    | none => false

/-- Nothing that looks into memory can come behind number j. -/
def lastB (ops : Array Oper) (j : Nat) : Bool := (List.range ops.size).all fun k => !readAt ops k || k == j || anc ops ops.size j k

def Keeps (nx0 : Nat) (H0 H : AH) : Prop := (∀ b o v, b < nx0 → H0.c b o = some v → H.c b o = some v) ∧ (∀ b ob, b < nx0 → H0.o b = some ob → H.o b = some ob) ∧ (∀ b x, b < nx0 → H0.t b = some x → H.t b = some x)
/-- Some of what is known. -/
def AH.Sub (H0 H : AH) : Prop := (∀ b o v, H0.c b o = some v → H.c b o = some v) ∧ (∀ b ob, H0.o b = some ob → H.o b = some ob) ∧ (∀ b x, H0.t b = some x → H.t b = some x) ∧ ∀ k, H0.d = some k → H.d = some k
theorem AH.Sub.refl (H : AH) : AH.Sub H H := ⟨fun _ _ _ h => h, fun _ _ h => h, fun _ _ h => h, fun _ h => h⟩

def yieldQ (P : Program) (H : AH) (env : Env) (o : Oper) (K : Value → Prop) : Prop := ∃ v, qv P H env o = some v ∧ K v

def adraw (P : Program) (lo : Nat) (ops : Array Oper) (H0 : AH) (nx0 : Nat) : List Nat → Env → AH → Nat → (Env → AH → Nat → Prop) → Prop
  | [], env, H, nx, K => K env H nx
  | i :: rest, env, H, nx, K => match ops[i]? with
    | none => False
    | some o =>
      let go : Prop := match pureOp o.op, readOp o.op with
        | true, _ => yieldQ P AH.empty env o fun v => adraw P lo ops H0 nx0 rest (push env o.dst v) H nx K
        | false, true => yieldQ P H0 env o fun v => adraw P lo ops H0 nx0 rest (push env o.dst v) H nx K
        | false, false => bop P lo o env H nx fun v H nx => (lastB ops i = true ∨ Keeps nx0 H0 H) ∧ adraw P lo ops H0 nx0 rest (push env o.dst v) H nx K
      match o.guard with
      | none => go
      | some (j, want) => ∃ b, guardB ops env j = some b ∧ if wantV want b = true then go
          else (pureOp o.op = true ∨ readOp o.op = true ∨ lastB ops i = true ∨ Keeps nx0 H0 H) ∧ adraw P lo ops H0 nx0 rest (push env o.dst undef) H nx K

def ordOk (ops : Array Oper) : List Nat → Array Bool → Bool
  | [], listed => (Region.ready .any ops listed).isEmpty
  | i :: rest, listed => (match ops[i]? with
      | none => false
      | some o => (Region.ready .any ops listed).contains i && (if pureOp o.op || readOp o.op then Region.free .any ops listed i else Region.ready .any ops listed == [i]))
    && ordOk ops rest (listed.setIfInBounds i true)

def ordOkF (fin : Array Bool → Bool) (ops : Array Oper) : List Nat → Array Bool → Bool
  | [], listed => fin listed
  | i :: rest, listed => (match ops[i]? with
      | none => false
      | some o => (Region.ready .any ops listed).contains i && (if pureOp o.op || readOp o.op then Region.free .any ops listed i else Region.ready .any ops listed == [i]))
    && ordOkF fin ops rest (listed.setIfInBounds i true)

/-- Orders where two operations that write may come first, either of them. -/
inductive Ord where
  | run : List Nat → Ord
  | fork : List Nat → Nat → Ord → Nat → Ord → Ord
def Ord.size : Ord → Nat
  | .run l => l.length
  | .fork l _ a _ b => l.length + (1 + max a.size b.size)
def effB (ops : Array Oper) (i : Nat) : Bool := match ops[i]? with
  | some o => !pureOp o.op && !readOp o.op && o.guard.isNone
  | none => false
def ordOkT (ops : Array Oper) : Ord → Array Bool → Bool
  | .run l => ordOkF (fun listed => (Region.ready .any ops listed).isEmpty) ops l
  | .fork l i a j b => ordOkF (fun listed => (Region.ready .any ops listed).all (fun k => k == i || k == j) && !(Region.ready .any ops listed).isEmpty && effB ops i && effB ops j && ordOkT ops a (listed.setIfInBounds i true) && ordOkT ops b (listed.setIfInBounds j true)) ops l
def adrawT (P : Program) (lo : Nat) (ops : Array Oper) (H0 : AH) (nx0 : Nat) : Ord → Env → AH → Nat → (Env → AH → Nat → Prop) → Prop
  | .run l, env, H, nx, K => adraw P lo ops H0 nx0 l env H nx K
  | .fork l i a j b, env, H, nx, K => adraw P lo ops H0 nx0 l env H nx fun env H nx =>
      adraw P lo ops H0 nx0 [i] env H nx (fun env H nx => adrawT P lo ops H0 nx0 a env H nx K) ∧ adraw P lo ops H0 nx0 [j] env H nx (fun env H nx => adrawT P lo ops H0 nx0 b env H nx K)

/-! ### Codes -/
def thenQ (k : Env → AH → Nat → Prop) (Q : Exit → Env → AH → Nat → Prop) : Exit → Env → AH → Nat → Prop
  | .normal => k
  | e => Q e
def blockQ (id : Nat) (Q : Exit → Env → AH → Nat → Prop) : Exit → Env → AH → Nat → Prop
  | .exit id' => if id' = id then Q .normal else Q (.exit id')
  | e => Q e

def awp (P : Program) (lo : Nat) (L : Nat → List Nat) : Code → (Exit → Env → AH → Nat → Prop) → Env → AH → Nat → Prop
  | .skip, Q, env, H, nx => Q .normal env H nx
  | .region id ops false, Q, env, H, nx => aops P lo ops ops.toList env H nx fun env H nx => Q .normal (prune (L id) env) H nx
  | .region id ops true, Q, env, H, nx => ∃ (ord : Ord) (H0 : AH), AH.Sub H0 H ∧ (ordOkT ops ord (Array.replicate ops.size false) && decide (ord.size ≤ ops.size) && Region.noSelect ops && P.follows .mixedOrders) = true ∧
      adrawT P lo ops H0 nx ord env H nx fun env H nx => Q .normal (prune (L id) env) H nx
  | .seq a b, Q, env, H, nx => awp P lo L a (thenQ (awp P lo L b Q) Q) env H nx
  | .cond c thn els, Q, env, H, nx => ∃ t, ev env c = some (.bool t) ∧ if t = true then awp P lo L thn Q env H nx else awp P lo L els Q env H nx
  | .block id body, Q, env, H, nx => awp P lo L body (blockQ id Q) env H nx
  | .loop body, Q, env, H, nx => ∃ (I : Nat → Env → AH → Nat → Prop) (m : Nat), I m env H nx ∧
      ∀ m env' H' nx', I m env' H' nx' → nx ≤ nx' → awp P lo L body (thenQ (fun env'' H'' nx'' => ∃ m', m' < m ∧ I m' env'' H'' nx'') Q) env' H' nx'
  | .exit id, Q, env, H, nx => Q (.exit id) env H nx
  | .ret, Q, env, H, nx => Q .ret env H nx
  | _, _, _, _, _ => False

def Code.dstOk (N : Nat) : Code → Bool
  | .region _ ops _ => ops.all fun o => match o.dst with | some d => decide (d < N) | none => true
  | .seq a b => Code.dstOk N a && Code.dstOk N b
  | .cond _ a b => Code.dstOk N a && Code.dstOk N b
  | .block _ c | .loop c => Code.dstOk N c
  | _ => true

def envArr (N : Nat) (env : Env) : Array Value := ((List.range N).map fun t => (eg env t).getD undef).toArray

def resKnown (fn : Func) (env : Env) : Bool := fn.results.all fun
  | .tmp t | .cell t _ => (eg env t).isSome

def retQ (P : Program) (fn : Func) (R : Value → AH → Nat → Prop) : Exit → Env → AH → Nat → Prop
  | .normal, env, H, nx | .ret, env, H, nx => resKnown fn env = true ∧ ∃ v, peek P H (results fn (envArr fn.ntmps env)) = some v ∧ R v H nx
  | _, _, _, _ => False

def argEnv : Nat → List Value → Env
  | _, [] => []
  | i, v :: r => (i, v) :: argEnv (i + 1) r

end Go.Proofs.YtngnbafididkcaaGreat
