/- OUR OWN LOGIC OVER THE KIT'S. 28: ranges over functions: calls of yield, rounds, the loop's record. Nothing of the program stands here. -/
import Derived.Test.YtngnbafididkcaaGreatL27
import Derived.RangeFuncRecord
import Derived.RangeFuncCalls
import Derived.OrdersIn
namespace Go.Proofs.YtngnbafididkcaaGreat
open Go.RowKit

/-- No fence but of what make the frame is. -/
def wideR (ro : Option Nat) : Fence := { fn := fun _ => True, depth := none, alive := false, round := ro }

/-- One round of the loop whose record is l. -/
def ARound (P : Program) (lo : Nat) (l : Nat) (fn : FuncId) (tmps : Array Value) (assign body : Code) (H : AH) (nx : Nat) (K : Value → AH → Nat → Prop) : Prop :=
  ∀ w, Rel lo H nx w → ∀ n, RoundIn Fence.wide n P l fn tmps assign body w fun e w' => ∃ v H' nx', e = .returned v ∧ K v H' nx' ∧ Rel lo H' nx' w' ∧ BelowD lo w w' ∧ nx ≤ nx'

def nextR (P : Program) (lo : Nat) (K : Value → AH → Nat → Prop) : Next → AH → Nat → Prop
  | .round l f tmps assign body, H, nx => ARound P lo l f tmps assign body H nx K
  | n, H, nx => nextQ P lo K n H nx

def noDef (o : Oper) : Bool := match o.op with | .defer _ => false | _ => true

def aopR (P : Program) (lo : Nat) (o : Oper) (env : Env) (H : AH) (nx : Nat) (K : Value → AH → Nat → Prop) : Prop :=
  known env o = true ∧ (∀ cs b, o.op ≠ .select cs b) ∧ aw P lo (execOp (aev env) o) (nextR P lo K) H nx

theorem aw_monoK {α : Type} {P : Program} {lo : Nat} (s : Sem α) : ∀ {K K' : α → AH → Nat → Prop} (_ : ∀ a H nx, K a H nx → K' a H nx) (H : AH) (nx : Nat), aw P lo s K H nx → aw P lo s K' H nx := by
  induction s with
  | pure a => intro K K' hk H nx h; exact hk _ _ _ h
  | new ob k ih =>
    intro K K' hk H nx
    cases ob with
    | cells cs e fr =>
      obtain ⟨f1, f2⟩ := fr
      match f1, f2 with
      | 0, 0 => exact fun h n hn => ih _ hk _ _ (h n hn)
      | f1 + 1, f2 => simp [aw]
      | 0, f2 + 1 => simp [aw]
    | _ => exact fun h n hn => ih _ hk _ _ (h n hn)
  | halt x => intro K K' hk H nx h; exact h
  | sys c k ih => intro K K' hk H nx h; exact h
  | load m a k ih => intro K K' hk H nx h; obtain ⟨h1, v, h2, h3⟩ := h; exact ⟨h1, v, h2, ih _ hk _ _ h3⟩
  | store m a v k ih => intro K K' hk H nx h; obtain ⟨h1, h2, h3, h4, h5⟩ := h; exact ⟨h1, h2, h3, h4, ih hk _ _ h5⟩
  | shape r k ih =>
    intro K K' hk H nx h
    rcases h with ⟨x, ht, h⟩ | ⟨h1, h2, h3⟩
    · exact .inl ⟨x, ht, ih _ hk _ _ h⟩
    · exact .inr ⟨h1, h2, fun e n hn => ih _ hk _ _ (h3 e n hn)⟩
  | freeze a n k ih => intro K K' hk H nx h; obtain ⟨h1, h2⟩ := h; exact ⟨h1, ih hk _ _ h2⟩
  | frozen a k ih =>
    intro K K' hk H nx h
    rcases h with ⟨ht, h⟩ | h
    · exact .inl ⟨ht, ih _ hk _ _ h⟩
    · exact .inr fun b => ih _ hk _ _ (h b)
  | getObj r k ih => intro K K' hk H nx h; obtain ⟨ob, h1, h2⟩ := h; exact ⟨ob, h1, ih _ hk _ _ h2⟩
  | setObj r ob k ih => intro K K' hk H nx h; obtain ⟨h1, h2, h3, h4⟩ := h; exact ⟨h1, h2, h3, ih hk _ _ h4⟩
  | choose q k ih => intro K K' hk H nx h; exact ⟨fun hf => ih _ hk _ _ (h.1 hf), fun hf i => ih _ hk _ _ (h.2 hf i)⟩
  | program k ih => intro K K' hk H nx h; exact ih _ hk _ _ h
  | mark m k ih => intro K K' hk H nx h; exact ih hk _ _ h

theorem aopR_of_aop {P : Program} {lo : Nat} {o : Oper} {env : Env} {H : AH} {nx : Nat} {K : Value → AH → Nat → Prop} (h : aop P lo o env H nx K) : aopR P lo o env H nx K := by
  obtain ⟨h1, h2, h3⟩ := h
  refine ⟨h1, h2, ?_⟩
  refine aw_monoK _ (fun n H nx hn => ?_) _ _ h3
  cases n <;> first | exact hn | exact hn.elim

/-- A call of yield. -/
def roundQ (P : Program) (lo l : Nat) (vs : List Value) (K : Value → AH → Nat → Prop) (H : AH) (nx : Nat) : Prop :=
  ∃ rec : Loop, H.o l = some (.loop rec) ∧ vs.length = rec.params.size ∧
    ARound P lo l rec.fn ((rec.params.zip vs.toArray).foldl (fun tmps (t, a) => tmps.setIfInBounds t a) rec.tmps) rec.assign rec.body H nx K

def callY (P : Program) (lo : Nat) (g : Value) (vs : List Value) (K : Value → AH → Nat → Prop) (H : AH) (nx : Nat) : Prop :=
  match g with
  | .func (.yield l) first captured => first = #[] ∧ captured = #[] ∧ roundQ P lo l vs K H nx
  | g => callQ P lo g vs K H nx

def bopR (P : Program) (lo : Nat) (o : Oper) (env : Env) (H : AH) (nx : Nat) (K : Value → AH → Nat → Prop) : Prop :=
  match o.op with
  | .call { callee := .value f, args, .. } => ∃ g, ev env f = some g ∧ ∃ vs, evs env args.toList = some vs ∧ callY P lo g vs K H nx
  | _ => bop P lo o env H nx K

theorem bopR_aopR {P : Program} {lo : Nat} {o : Oper} {env : Env} {H : AH} {nx : Nat} {K : Value → AH → Nat → Prop} (h : bopR P lo o env H nx K) : aopR P lo o env H nx K := by
  unfold bopR at h
  split at h
  · rename_i f args _ hop
    obtain ⟨g, hf, vs, hvs, h⟩ := h
    unfold callY at h
    split at h
    · rename_i l first captured
      obtain ⟨rfl, rfl, rec, hl, hlen, hR⟩ := h
      obtain ⟨l1, l2⟩ := evs_spec hvs
      refine ⟨?_, by rw [hop]; simp, ?_⟩
      · rw [known_iff, hop]
        intro y hy
        simp only [Op.operands, Call.operands, Array.toList_append, List.mem_append] at hy
        rcases hy with hy | hy
        · simp at hy; subst hy; rw [hf]; rfl
        · exact l2 y hy
      · have e1 : args.map (aev env) = vs.toArray := by rw [← l1]; apply Array.ext'; simp
        have e2 : execOp (aev env) o = Instr.yield l vs.toArray := by
          simp only [execOp, hop, resolve, ev_aev hf, e1]
          simp [invoke, go_sem]
        rw [e2]
        simp only [Instr.yield, Instr.getLoop, getObj, aw_then, aw]
        refine ⟨_, hl, ?_⟩
        simp only [aw_pure, List.size_toArray, hlen]
        simp only [ne_eq, not_true_eq_false, if_false, aw_pure, nextR]
        exact hR
    · refine aopR_of_aop (bop_aop ?_)
      unfold bop
      rw [hop]
      exact ⟨g, hf, vs, hvs, h⟩
  · exact aopR_of_aop (bop_aop h)

theorem aopR_sound {P : Program} {lo N n : Nat} {ro : Option Nat} {o : Oper} {env : Env} {H : AH} {nx : Nat} {R : Value → AH → Nat → Prop} (h : aopR P lo o env H nx R) (hnd : noDef o = true) {a : Act} {w : World} (he : EnvRel N env { a with defers := [] }) (hr : Rel lo H nx w)
    {Q : Exit → Act → World → Prop} : o.wpIn (wideR ro) n P a w (StepQ lo w nx N a o R) Q := by
  obtain ⟨hk, hs, hw⟩ := h
  obtain ⟨x, w', H', nx', g1, g2, g3, g4, g5⟩ := aw_sound _ _ _ _ _ hw hr
  unfold Oper.wpIn
  refine ⟨fun _ _ => trivial, ?_⟩
  have hex : execOp a.eval o = execOp (aev env) o := he.exec hk hs
  rw [Oper.semAt_eq _ _ _ (fun c hc => by rw [noDef, hc] at hnd; cases hnd), hex, g1]
  have hsz : a.tmps.size = N := he.size
  cases x with
  | value v => exact ⟨v, H', nx', g2, rfl, g3, g4, g5, hsz⟩
  | skip => exact ⟨undef, H', nx', g2, rfl, g3, g4, g5, hsz⟩
  | enter f args =>
    refine ⟨fun hh => by simp [wideR] at hh, ?_⟩
    have hc : CallsIn Fence.wide (n - 1) P f args w' _ := callsIn_wide.2 (g2 w' g3)
    refine CallsIn.mono (show CallsIn (wideR ro) (n - 1) P f args w' _ from hc) fun e w'' hh => ?_
    obtain ⟨v, H'', nx'', rfl, hv, r, b, hn⟩ := hh
    exact ⟨v, H'', nx'', hv, rfl, r, g4.trans b, by omega, hsz⟩
  | round l f tmps assign body =>
    refine ⟨fun hh => by simp [wideR] at hh, ?_⟩
    refine RoundIn.mono (show RoundIn (wideR ro) (n - 1) P l f tmps assign body w' _ from g2 w' g3 (n - 1)) fun e w'' hh => ?_
    obtain ⟨v, H'', nx'', rfl, hv, r, b, hn⟩ := hh
    exact ⟨v, H'', nx'', hv, rfl, r, g4.trans b, by omega, hsz⟩
  | _ => exact g2.elim

def aopsR (P : Program) (lo : Nat) (ops : Array Oper) : List Oper → Env → AH → Nat → (Env → AH → Nat → Prop) → Prop
  | [], env, H, nx, K => K env H nx
  | o :: rest, env, H, nx, K => noDef o = true ∧ match o.guard with
    | none => bopR P lo o env H nx fun v H nx => aopsR P lo ops rest (push env o.dst v) H nx K
    | some (j, want) => ∃ b, guardB ops env j = some b ∧
      if wantV want b = true then bopR P lo o env H nx fun v H nx => aopsR P lo ops rest (push env o.dst v) H nx K
      else aopsR P lo ops rest (push env o.dst undef) H nx K

def regY (l : List Nat) (Q : Exit → Env → List Deferred → AH → Nat → Prop) (ds : List Deferred) : Env → AH → Nat → Prop := fun env H nx => Q .normal (prune l env) ds H nx
def thenY (k : Env → List Deferred → AH → Nat → Prop) (Q : Exit → Env → List Deferred → AH → Nat → Prop) : Exit → Env → List Deferred → AH → Nat → Prop
  | .normal => k
  | e => Q e
def blockY (id : Nat) (Q : Exit → Env → List Deferred → AH → Nat → Prop) : Exit → Env → List Deferred → AH → Nat → Prop
  | .exit id' => if id' = id then Q .normal else Q (.exit id')
  | e => Q e

def awy (P : Program) (lo N : Nat) (L : Nat → List Nat) (ro : Option Nat) : Code → (Exit → Env → List Deferred → AH → Nat → Prop) → Env → List Deferred → AH → Nat → Prop
  | .skip, Q, env, ds, H, nx => Q .normal env ds H nx
  | .region id ops false, Q, env, ds, H, nx => aopsR P lo ops ops.toList env H nx (regY (L id) Q ds)
  | .seq a b, Q, env, ds, H, nx => awy P lo N L ro a (thenY (awy P lo N L ro b Q) Q) env ds H nx
  | .cond c thn els, Q, env, ds, H, nx => ∃ t, ev env c = some (.bool t) ∧ if t = true then awy P lo N L ro thn Q env ds H nx else awy P lo N L ro els Q env ds H nx
  | .block id body, Q, env, ds, H, nx => awy P lo N L ro body (blockY id Q) env ds H nx
  | .loop body, Q, env, ds, H, nx => ∃ (I : Nat → Env → AH → Nat → Prop) (m : Nat), I m env H nx ∧
      ∀ m env' H' nx', I m env' H' nx' → nx ≤ nx' → awy P lo N L ro body (thenY (fun env'' ds'' H'' nx'' => ds'' = ds ∧ ∃ m', m' < m ∧ I m' env'' H'' nx'') Q) env' ds H' nx'
  | .exit id, Q, env, ds, H, nx => Q (.exit id) env ds H nx
  | .ret, Q, env, ds, H, nx => Q .ret env ds H nx
  | .rangeFunc g ps assign body, Q, env, ds, H, nx => ro = none ∧ ∃ gf lb, ev env g = some (.func (.func gf) #[] lb) ∧ fnOk P gf = true ∧
      ∀ fn tmps D l, EnvRel N env { tmps := tmps, defers := [] } → nx ≤ D → l = D + 1 →
        ACalls P lo gf (#[.func (.yield l) #[] #[]] ++ lb) ((H.newO D (.deferred (some []))).newO l (.loop { state := .ready, pending := none, fn, tmps, params := ps, assign, body, defers := D })) (l + 1) fun _ H' nx' =>
          aw P lo (Instr.endLoop l) (fun j H nx => j = none ∧ Q .normal env ({ target := .collected D, args := #[] } :: ds) H nx) H' nx'
  | _, _, _, _, _, _ => False

def liftY (lo N : Nat) (w0 : World) (nx0 : Nat) (Q : Exit → Env → List Deferred → AH → Nat → Prop) : Exit → Act → World → Prop
  | .panic _, _, _ => False
  | .outgrown, _, _ => False
  | e, a, w => ∃ env H nx, Q e env a.defers H nx ∧ EnvRel N env { a with defers := [] } ∧ Rel lo H nx w ∧ BelowD lo w0 w ∧ nx0 ≤ nx

theorem liftY_mono {lo N : Nat} {w0 w1 : World} {nx0 nx1 : Nat} {Q : Exit → Env → List Deferred → AH → Nat → Prop} (hb : BelowD lo w0 w1) (hn : nx0 ≤ nx1) {e : Exit} {a : Act} {w : World} (h : liftY lo N w1 nx1 Q e a w) : liftY lo N w0 nx0 Q e a w := by
  cases e <;> first | exact h.elim | (obtain ⟨env, H, nx, h1, h2, h3, h4, h5⟩ := h; exact ⟨env, H, nx, h1, h2, h3, hb.trans h4, by omega⟩)

theorem put_defers (a : Act) (d : Option Tmp) (v : Value) : { a.put d v with defers := [] } = ({ a with defers := [] } : Act).put d v ∧ (a.put d v).defers = a.defers := by
  cases d <;> exact ⟨rfl, rfl⟩

theorem aopsR_sound {P : Program} {lo N n : Nat} {ro : Option Nat} {ops : Array Oper} {Q : Exit → Act → World → Prop} {K : Env → AH → Nat → Prop} {w0 : World} {nx0 : Nat} {ds : List Deferred}
    (hd : ∀ o ∈ ops, ∀ d, o.dst = some d → d < N) (hQ : ∀ a w, (∃ env H nx, K env H nx ∧ EnvRel N env { a with defers := [] } ∧ a.defers = ds ∧ Rel lo H nx w ∧ BelowD lo w0 w ∧ nx0 ≤ nx) → Q .normal a w) :
    ∀ (rest : List Oper) (k : Nat), ops.toList.drop k = rest → ∀ (env : Env) (H : AH) (nx : Nat) (a : Act) (w : World), aopsR P lo ops rest env H nx K → EnvRel N env { a with defers := [] } → a.defers = ds → Rel lo H nx w → BelowD lo w0 w → nx0 ≤ nx →
      wpOpsIn (wideR ro) n P ops Q (List.range' k rest.length) a w
  | [], k, hk, env, H, nx, a, w, h, he, hds, hr, hb, hn => hQ a w ⟨env, H, nx, h, he, hds, hr, hb, hn⟩
  | o :: rest, k, hk, env, H, nx, a, w, h, he, hds, hr, hb, hn => by
    have hok : ops[k]? = some o := by
      have := congrArg List.head? hk
      rw [List.head?_drop] at this
      simpa using this
    have hrest : ops.toList.drop (k + 1) = rest := by
      rw [← List.drop_drop, hk]; rfl
    have hmem : o ∈ ops := Array.mem_of_getElem? hok
    have hdo := hd o hmem
    simp only [List.length_cons, List.range'_succ, wpOpsIn, hok]
    obtain ⟨hnd, h⟩ := h
    have go : bopR P lo o env H nx (fun v H nx => aopsR P lo ops rest (push env o.dst v) H nx K) → o.wpIn (wideR ro) n P a w (wpOpsIn (wideR ro) n P ops Q (List.range' (k + 1) rest.length)) Q := fun hop =>
      Oper.wpIn_mono (K := StepQ lo w nx N a o _) (fun a' w' ⟨v, H', nx', g1, g2, g3, g4, g5, _⟩ => by
        subst g2
        exact aopsR_sound hd hQ rest (k + 1) hrest _ H' nx' _ w' g1 (by rw [(put_defers a o.dst v).1]; exact he.push hdo v) (by rw [(put_defers a o.dst v).2]; exact hds) g3 (hb.trans g4) (by omega)) (aopR_sound (bopR_aopR hop) hnd he hr)
    cases hg : o.guard with
    | none =>
      rw [hg] at h
      have hw : Region.wanted o (yielded ops a.tmps) = true := by simp [Region.wanted, hg]
      rw [if_pos hw]
      exact go h
    | some gw =>
      obtain ⟨j, want⟩ := gw
      rw [hg] at h
      obtain ⟨b, hb1, h⟩ := h
      have hy : (yielded ops a.tmps j == some want) = wantV want b := he.guard hb1 want
      by_cases hbw : wantV want b = true
      · rw [if_pos hbw] at h
        have hw : Region.wanted o (yielded ops a.tmps) = true := by simp only [Region.wanted, hg]; rw [hy, hbw]
        rw [if_pos hw]
        exact go h
      · rw [if_neg hbw] at h
        have hw : ¬ Region.wanted o (yielded ops a.tmps) = true := by simp only [Region.wanted, hg]; rw [hy]; exact hbw
        rw [if_neg hw]
        exact ⟨fun _ _ => trivial, aopsR_sound hd hQ rest (k + 1) hrest _ H nx _ w h (by rw [(put_defers a o.dst undef).1]; exact he.push hdo undef) (by rw [(put_defers a o.dst undef).2]; exact hds) hr hb hn⟩

theorem Code.dst_mem {N : Nat} {ops : Array Oper} (hd : (ops.all fun o => match o.dst with | some d => decide (d < N) | none => true) = true) : ∀ o ∈ ops, ∀ d, o.dst = some d → d < N := fun o ho d hod => by
  have := Array.all_eq_true_iff_forall_mem.1 hd o ho
  rw [hod] at this
  simpa using this

theorem callFunc_entry {P : Program} {n : Nat} (h : fnOk P n = true) (args : Array Value) (w : World) : Sem.run P (callFunc n args) w = .ok (.enter n args) w := by
  unfold fnOk at h
  cases hfn : P.funcs[n]? with
  | none => rw [hfn] at h; cases h
  | some fn =>
    rw [hfn] at h
    simp only [Bool.and_eq_true, Bool.not_eq_true'] at h
    unfold callFunc
    show Sem.run P (Sem.program fun p => _) w = _
    simp only [Sem.run, Sem.bind, hfn, h.1, h.2, Bool.false_eq_true, if_false]
    rfl

theorem wpIn_loop_idx {F : Fence} {n : Nat} {P : Program} {c : Code} {Q : Exit → Act → World → Prop} (I : Nat → Act → World → Prop)
    (round : ∀ m a w, I m a w → c.wpIn F n P (Exit.then (fun a' w' => ∃ m', m' < m ∧ I m' a' w') Q) a w) {m : Nat} {a : Act} {w : World} (h₀ : I m a w) : (Code.loop c).wpIn F n P Q a w := by
  intro b k cs hro hb hr
  have key : ∀ j a w, I j a w →
      ∃ e a' w', Q e a' w' ∧ ArrivesIn (Machine.fenced P F) P (lone (b.atR a (.code c :: .inLoop c :: k)) cs w) b k cs e a' w' := by
    intro j
    induction j using Nat.strongRecOn with
    | _ j ih =>
      intro a w hI
      obtain ⟨e, a₁, w₁, hq, harr⟩ := round j a w hI b (.inLoop c :: k) cs hro hb hr
      cases e with
      | normal =>
        obtain ⟨m', hlt, hI₁⟩ := hq
        obtain ⟨e₂, a₂, w₂, hq₂, harr₂⟩ := ih m' hlt a₁ w₁ hI₁
        exact ⟨e₂, a₂, w₂, hq₂, .of_steps (StepsIn.trans harr (.one (fenced_calm hb hr rfl) stepR_inLoop)) harr₂⟩
      | exit id => exact ⟨_, a₁, w₁, hq, .pass (x := .inLoop c) rfl (fun _ _ => .inl (by simp)) harr⟩
      | goto l => exact ⟨_, a₁, w₁, hq, .pass (x := .inLoop c) rfl (fun _ _ => .inl (by simp)) harr⟩
      | ret => exact ⟨_, a₁, w₁, hq, .pass (x := .inLoop c) rfl (fun _ _ => .inl (by simp)) harr⟩
      | panic ch => exact ⟨_, a₁, w₁, hq, .pass (x := .inLoop c) rfl (fun _ _ => .inl (by simp)) harr⟩
      | outgrown => exact ⟨_, a₁, w₁, hq, .pass (x := .inLoop c) rfl (fun _ _ => .inl (by simp)) harr⟩
  obtain ⟨e, a', w', hq, harr⟩ := key m a w h₀
  exact ⟨e, a', w', hq, .of_steps (.one (fenced_calm hb hr rfl) stepR_loop) harr⟩

theorem awy_sound {P : Program} {lo N n : Nat} {L : Nat → List Nat} {ro : Option Nat} : ∀ (c : Code), Code.dstOk N c = true → ∀ (Q : Exit → Env → List Deferred → AH → Nat → Prop) (env : Env) (H : AH) (nx : Nat) (a : Act) (w : World), awy P lo N L ro c Q env a.defers H nx → EnvRel N env { a with defers := [] } → Rel lo H nx w →
    c.wpIn (wideR ro) n P (liftY lo N w nx Q) a w
  | .skip, _, Q, env, H, nx, a, w, h, he, hr => wpIn_skip ⟨env, H, nx, h, he, hr, BelowD.refl _ _, Nat.le_refl _⟩
  | .region id ops false, hd, Q, env, H, nx, a, w, h, he, hr => by
    refine wpIn_region ?_
    have := aopsR_sound (n := n) (ro := ro) (Q := liftY lo N w nx Q) (w0 := w) (nx0 := nx) (ds := a.defers) (Code.dst_mem hd) (K := regY (L id) Q a.defers)
      (fun a' w' ⟨env', H', nx', g1, g2, g3, g4, g5, g6⟩ => ⟨_, H', nx', by rw [g3]; exact g1, g2.sub (eg_prune env' (L id)), g4, g5, g6⟩) ops.toList 0 rfl env H nx a w h he rfl hr (BelowD.refl _ _) (Nat.le_refl _)
    rwa [Array.length_toList, ← List.range_eq_range'] at this
  | .region _ _ true, _, _, _, _, _, _, _, h, _, _ => h.elim
  | .seq x y, hd, Q, env, H, nx, a, w, h, he, hr => by
    simp only [Code.dstOk, Bool.and_eq_true] at hd
    refine wpIn_seq (wpIn_mono (awy_sound x hd.1 _ env H nx a w h he hr) fun e a' w' hq => ?_)
    cases e with
    | normal =>
      obtain ⟨env', H', nx', g1, g2, g3, g4, g5⟩ := hq
      exact wpIn_mono (awy_sound y hd.2 Q env' H' nx' a' w' g1 g2 g3) fun e a'' w'' hq' => liftY_mono g4 g5 hq'
    | _ => exact hq
  | .cond c x y, hd, Q, env, H, nx, a, w, h, he, hr => by
    simp only [Code.dstOk, Bool.and_eq_true] at hd
    obtain ⟨t, hc, h⟩ := h
    have hev : a.eval c = .bool t := by
      have h1 : a.eval c = aev env c := he.eval (by rw [hc]; rfl)
      rw [h1]
      unfold aev
      rw [hc]; rfl
    cases t with
    | true => exact wpIn_cond_true hev (awy_sound x hd.1 Q env H nx a w (by simpa using h) he hr)
    | false => exact wpIn_cond_false hev (awy_sound y hd.2 Q env H nx a w (by simpa using h) he hr)
  | .block id c, hd, Q, env, H, nx, a, w, h, he, hr => by
    refine wpIn_block (wpIn_mono (awy_sound c hd _ env H nx a w h he hr) fun e a' w' hq => ?_)
    cases e with
    | exit id' =>
      obtain ⟨env', H', nx', g1, g⟩ := hq
      simp only [Exit.inBlock]
      simp only [blockY] at g1
      split
      · rename_i hid
        simp only [hid, if_true] at g1
        exact ⟨env', H', nx', g1, g⟩
      · rename_i hid
        simp only [hid, if_false] at g1
        exact ⟨env', H', nx', g1, g⟩
    | _ => exact hq
  | .loop c, hd, Q, env, H, nx, a, w, h, he, hr => by
    obtain ⟨I, m, hI, round⟩ := h
    refine wpIn_loop_idx (fun m a' w' => ∃ env' H' nx', I m env' H' nx' ∧ EnvRel N env' { a' with defers := [] } ∧ a'.defers = a.defers ∧ Rel lo H' nx' w' ∧ BelowD lo w w' ∧ nx ≤ nx') (fun m a' w' hh => ?_) ⟨env, H, nx, hI, he, rfl, hr, BelowD.refl _ _, Nat.le_refl _⟩
    obtain ⟨env', H', nx', g1, g2, gd, g3, g4, g5⟩ := hh
    refine wpIn_mono (awy_sound c hd _ env' H' nx' a' w' (by rw [gd]; exact round m env' H' nx' g1 g5) g2 g3) fun e a'' w'' hq => ?_
    cases e with
    | normal =>
      obtain ⟨env'', H'', nx'', ⟨hds, m', hlt, hI'⟩, k2, k3, k4, k5⟩ := hq
      exact ⟨m', hlt, env'', H'', nx'', hI', k2, hds, k3, g4.trans k4, by omega⟩
    | exit id => exact liftY_mono g4 g5 (e := .exit id) hq
    | goto l => exact liftY_mono g4 g5 (e := .goto l) hq
    | ret => exact liftY_mono g4 g5 (e := .ret) hq
    | panic c => exact hq
    | outgrown => exact hq
  | .exit id, _, Q, env, H, nx, a, w, h, he, hr => wpIn_exit ⟨env, H, nx, h, he, hr, BelowD.refl _ _, Nat.le_refl _⟩
  | .ret, _, Q, env, H, nx, a, w, h, he, hr => wpIn_ret ⟨env, H, nx, h, he, hr, BelowD.refl _ _, Nat.le_refl _⟩
  | .rangeFunc g ps assign body, _, Q, env, H, nx, a, w, h, he, hr => by
    obtain ⟨rfl, gf, lb, hg, hfn, h⟩ := h
    have hev : a.eval g = .func (.func gf) #[] lb := by
      have h1 : a.eval g = aev env g := he.eval (by rw [hg]; rfl)
      rw [h1]
      unfold aev
      rw [hg]; rfl
    have hns := hr.nx_size
    refine wpIn_rangeFunc fun fn _ => ?_
    obtain ⟨rec, hrec⟩ : ∃ rec : Loop, rec = { state := .ready, pending := none, fn, tmps := a.tmps, params := ps, assign, body, defers := w.heap.size } := ⟨_, rfl⟩
    have hr1 := hr.newO (ob := .deferred (some [])) rfl
    have hr2 := hr1.newO (ob := .loop rec) rfl
    have hs1 : (w.alloc (.deferred (some []))).heap.size = w.heap.size + 1 := by simp
    rw [hs1] at hr2
    have hb2 : BelowD lo w ((w.alloc (.deferred (some []))).alloc (.loop rec)) := ((BelowD.refl lo w).alloc (by have := hr.lo_nx; omega) _).alloc (by have := hr.lo_nx; simp; omega) _
    refine ⟨w.heap.size + 1, [{ target := .collected w.heap.size, args := #[] }], (w.alloc (.deferred (some []))).alloc (.loop rec), { target := .fn (.func gf) lb, args := #[.func (.yield (w.heap.size + 1)) #[] #[]] }, (w.alloc (.deferred (some []))).alloc (.loop rec), gf,
      #[.func (.yield (w.heap.size + 1)) #[] #[]] ++ lb, (w.alloc (.deferred (some []))).alloc (.loop rec), ?_, ?_, ?_, ?_, fun hh => by simp [wideR] at hh, ?_⟩
    · rw [hrec]; exact run_enterLoop_outer _ _ _ _ _
    · simp only [resolve, hev]
      simp [go_sem]
    · intro f' _; trivial
    · simp [invoke, go_sem, callFunc_entry hfn]
    · have hc := h fn a.tmps w.heap.size (w.heap.size + 1) ⟨he.size, rfl, he.tmp⟩ hns rfl _ (by rw [← hrec]; exact hr2)
      refine CallsIn.mono (show CallsIn (wideR none) (n - 1) P gf _ _ _ from callsIn_wide.2 hc) fun e w3 hh => ?_
      obtain ⟨v, H3, nx3, rfl, hq, r3, b3, n3⟩ := hh
      obtain ⟨j, w4, H4, nx4, g1, ⟨rfl, g2⟩, g3, g4, g5⟩ := aw_sound _ _ _ _ _ hq r3
      refine ⟨none, w4, g1, ?_⟩
      exact ⟨env, H4, nx4, g2, he, g3, (hb2.trans b3).trans g4, by omega⟩
  | .scope _, _, _, _, _, _, _, _, h, _, _ => h.elim
  | .label _, _, _, _, _, _, _, _, h, _, _ => h.elim
  | .goto _, _, _, _, _, _, _, _, h, _, _ => h.elim
  | .refuse _, _, _, _, _, _, _, _, h, _, _ => h.elim

/-! ### A function's contract; a round -/
def retY (P : Program) (lo : Nat) (fn : Func) (R : Value → AH → Nat → Prop) : Exit → Env → List Deferred → AH → Nat → Prop
  | .ret, env, ds, H, nx => resKnown fn env = true ∧ ((ds = [] ∧ ∃ v, peek P H (results fn (envArr fn.ntmps env)) = some v ∧ R v H nx) ∨
      ∃ D, ds = [{ target := .collected D, args := #[] }] ∧ lo ≤ D ∧ H.o D = some (.deferred (some [])) ∧ ∃ v, peek P (H.setO D (.deferred none)) (results fn (envArr fn.ntmps env)) = some v ∧ R v (H.setO D (.deferred none)) nx)
  | .normal, env, ds, H, nx => resKnown fn env = true ∧ ds = [] ∧ ∃ v, peek P H (results fn (envArr fn.ntmps env)) = some v ∧ R v H nx
  | _, _, _, _, _ => False

theorem acalls_of_awy {P : Program} {lo : Nat} (L : Nat → List Nat) {f : FuncId} {fn : Func} {c : Code} {args : Array Value} {H : AH} {nx : Nat} {R : Value → AH → Nat → Prop}
    (hf : P.funcs[f]? = some fn) (hb : fn.body = some c) (hd : (Code.dstOk fn.ntmps c && decide (args.size ≤ fn.ntmps) && fn.results.all fun | .tmp t | .cell t _ => decide (t < fn.ntmps)) = true)
    (h : awy P lo fn.ntmps L none c (retY P lo fn R) (argEnv 0 args.toList) [] H nx) : ACalls P lo f args H nx R := by
  intro w hw
  simp only [Bool.and_eq_true, decide_eq_true_eq] at hd
  obtain ⟨⟨hd1, hd2⟩, hd3⟩ := hd
  refine (callsIn_wide (n := 0)).1 ?_
  refine callsIn_of_wp_marks (F := Fence.wide) hf hb trivial (wpIn_mono (show Code.wpIn Fence.wide 0 P c _ _ w from awy_sound (N := fn.ntmps) (ro := none) c hd1 _ _ H nx _ w h ⟨?_, rfl, fun t v hv => ?_⟩ hw) fun e a w' hq => ?_)
  · simp; omega
  · obtain ⟨_, h2⟩ := eg_argEnv _ _ _ _ hv
    simp only [Nat.sub_zero, Array.getElem?_toList] at h2
    have hlt : t < args.size := (Array.getElem?_eq_some_iff.1 h2).1
    rw [Array.getD_eq_getD_getElem?, Array.getElem?_append_left hlt, h2]
    rfl
  · have hres : ∀ (env : Env), resKnown fn env = true → EnvRel fn.ntmps env { a with defers := [] } → results fn a.tmps = results fn (envArr fn.ntmps env) := fun env g1 k1 => results_congr fun r hr => by
        have h1 := Array.all_eq_true_iff_forall_mem.1 g1 r hr
        have h2 := Array.all_eq_true_iff_forall_mem.1 hd3 r hr
        cases r with
        | tmp t =>
          simp only [decide_eq_true_eq] at h1 h2 ⊢
          rw [envArr_get _ _ _ h2]
          obtain ⟨u, hu⟩ := Option.isSome_iff_exists.1 h1
          rw [k1.tmp t u hu, hu]; rfl
        | cell t ty =>
          simp only [decide_eq_true_eq] at h1 h2 ⊢
          rw [envArr_get _ _ _ h2]
          obtain ⟨u, hu⟩ := Option.isSome_iff_exists.1 h1
          rw [k1.tmp t u hu, hu]; rfl
    have done : ∀ (env : Env) (H' : AH) (nx' : Nat) (v : Value), resKnown fn env = true → a.defers = [] → peek P H' (results fn (envArr fn.ntmps env)) = some v → R v H' nx' → EnvRel fn.ntmps env { a with defers := [] } → Rel lo H' nx' w' → BelowD lo w w' → nx ≤ nx' →
        LeavesInM Fence.wide 0 P fn a.tmps (fun e w' => ∃ v H' nx', e = .returned v ∧ R v H' nx' ∧ Rel lo H' nx' w' ∧ BelowD lo w w' ∧ nx ≤ nx') a.defers .returning w' := fun env H' nx' v g1 g0 g2 g3 k1 k2 k3 k4 => by
      rw [g0]
      exact ⟨v, by rw [hres env g1 k1]; exact peek_sound k2.sees _ _ g2, v, H', nx', rfl, g3, k2, k3, k4⟩
    cases e with
    | normal =>
      obtain ⟨env, H', nx', ⟨g1, g0, v, g2, g3⟩, k1, k2, k3, k4⟩ := hq
      exact done env H' nx' v g1 g0 g2 g3 k1 k2 k3 k4
    | ret =>
      obtain ⟨env, H', nx', ⟨g1, g⟩, k1, k2, k3, k4⟩ := hq
      rcases g with ⟨g0, v, g2, g3⟩ | ⟨D, g0, hlo, hD, v, g2, g3⟩
      · exact done env H' nx' v g1 g0 g2 g3 k1 k2 k3 k4
      · show LeavesInM Fence.wide 0 P fn a.tmps _ a.defers .returning w'
        rw [g0]
        obtain ⟨_, hw2, _⟩ := k2.o _ _ hD
        have hr' := k2.setO (ob := .deferred none) hD rfl
        refine ⟨by simp, .inl ⟨D, _, rfl, run_takeDeferred hw2, ?_⟩⟩
        exact ⟨v, by rw [hres env g1 k1]; exact peek_sound hr'.sees _ _ g2, v, _, nx', rfl, g3, hr', k3.trans (below_setO w' D _ hlo), k4⟩
    | exit id => obtain ⟨env, H', nx', g, _⟩ := hq; exact g.elim
    | goto l => obtain ⟨env, H', nx', g, _⟩ := hq; exact g.elim
    | panic c => exact hq.elim
    | outgrown => exact hq.elim

def endY (l : Nat) (K : Value → AH → Nat → Prop) : Exit → Env → List Deferred → AH → Nat → Prop
  | .normal, _, _, H, nx => ∃ rec2, H.o l = some (.loop rec2) ∧ K (.bool true) (H.setO l (.loop { rec2 with state := .ready, pending := none })) nx
  | _, _, _, _, _ => False
def asgY (P : Program) (lo l N : Nat) (L : Nat → List Nat) (rec : Loop) (body : Code) (K : Value → AH → Nat → Prop) : Exit → Env → List Deferred → AH → Nat → Prop
  | .normal, env, ds, H, nx => ds = [] ∧ H.o l = some (.loop rec) ∧ awy P lo N L (some l) body (endY l K) env [] (H.setO l (.loop { rec with state := .busy })) nx
  | _, _, _, _, _ => False

/-- One round: the loop's left sides, the body; it goes on. -/
theorem ARound.of {P : Program} {lo l N : Nat} (L : Nat → List Nat) {fn : FuncId} {tmps : Array Value} {assign body : Code} {H : AH} {nx : Nat} {K : Value → AH → Nat → Prop} {rec : Loop} {env : Env} (hlo : lo ≤ l) (hst : rec.state = .ready)
    (hd : (Code.dstOk N assign && Code.dstOk N body) = true) (he : EnvRel N env { tmps := tmps, defers := [] })
    (h : awy P lo N L (some l) assign (asgY P lo l N L rec body K) env [] H nx) :
    ARound P lo l fn tmps assign body H nx K := by
  intro w hw n
  simp only [Bool.and_eq_true] at hd
  refine roundIn_of_wpIn (F := Fence.wide) trivial (wpIn_mono (show Code.wpIn (Fence.wide.inRound l) n P assign _ _ w from awy_sound (ro := some l) assign hd.1 _ env H nx { tmps := tmps, defers := [] } w h he hw) fun e a w1 hq => ?_)
  cases e with
  | normal =>
    obtain ⟨env1, H1, nx1, ⟨hds, hl, h⟩, k1, k2, k3, k4⟩ := hq
    obtain ⟨_, hw1, _⟩ := k2.o _ _ hl
    have hr1 := k2.setO (ob := .loop { rec with state := .busy }) hl rfl
    refine ⟨_, run_beginRound hw1 hst, wpIn_mono (show Code.wpIn (Fence.wide.inRound l) n P body _ _ _ from awy_sound (ro := some l) body hd.2 _ env1 _ nx1 a _ (by rw [hds]; exact h) k1 hr1) fun e a2 w2 hq => ?_⟩
    cases e with
    | normal =>
      obtain ⟨env2, H2, nx2, ⟨rec2, hl2, hK⟩, j1, j2, j3, j4⟩ := hq
      obtain ⟨_, hw2, _⟩ := j2.o _ _ hl2
      have hr2 := j2.setO (ob := .loop { rec2 with state := .ready, pending := none }) hl2 rfl
      exact ⟨_, _, run_endRound none hw2, _, _, nx2, rfl, hK, hr2, ((k3.trans (below_setO w1 l _ hlo)).trans j3).trans (below_setO w2 l _ hlo), by omega⟩
    | exit id => obtain ⟨_, _, _, g, _⟩ := hq; exact g.elim
    | goto l => obtain ⟨_, _, _, g, _⟩ := hq; exact g.elim
    | ret => obtain ⟨_, _, _, g, _⟩ := hq; exact g.elim
    | panic c => exact hq.elim
    | outgrown => exact hq.elim
  | exit id => obtain ⟨_, _, _, g, _⟩ := hq; exact g.elim
  | goto l => obtain ⟨_, _, _, g, _⟩ := hq; exact g.elim
  | ret => obtain ⟨_, _, _, g, _⟩ := hq; exact g.elim
  | panic c => exact hq.elim
  | outgrown => exact hq.elim

theorem aw_endLoop {P : Program} {lo l : Nat} {H : AH} {nx : Nat} {K : Option Code → AH → Nat → Prop} {rec : Loop} (ho : H.o l = some (.loop rec)) (hst : rec.state = .ready) (hlo : lo ≤ l) (hk : K rec.pending (H.setO l (.loop { rec with state := .exhausted })) nx) : aw P lo (Instr.endLoop l) K H nx := by
  unfold Instr.endLoop Instr.getLoop
  simp only [aw_then, getObj, aw]
  refine ⟨_, ho, ?_⟩
  have hb : (rec.state == LoopState.busy) = false := by rw [hst]; rfl
  simp only [aw_pure, hb, Bool.false_eq_true, if_false, setObj, aw_then, aw]
  exact ⟨hlo, by rw [ho]; rfl, rfl, hk⟩

theorem retY_normal {P : Program} {lo : Nat} {fn : Func} {R : Value → AH → Nat → Prop} {env : Env} {H : AH} {nx : Nat} (h : retQ P fn R .ret env H nx) : retY P lo fn R .normal env [] H nx := ⟨h.1, rfl, h.2⟩
theorem retY_ret {P : Program} {lo : Nat} {fn : Func} {R : Value → AH → Nat → Prop} {env : Env} {H : AH} {nx : Nat} (h : retQ P fn R .ret env H nx) : retY P lo fn R .ret env [] H nx := ⟨h.1, .inl ⟨rfl, h.2⟩⟩
theorem retY_mark {P : Program} {lo : Nat} {fn : Func} {R : Value → AH → Nat → Prop} {env : Env} {H : AH} {nx D : Nat} (hlo : lo ≤ D) (hD : H.o D = some (.deferred (some []))) (h : retQ P fn R .ret env (H.setO D (.deferred none)) nx) : retY P lo fn R .ret env [{ target := .collected D, args := #[] }] H nx := ⟨h.1, .inr ⟨D, rfl, hlo, hD, h.2⟩⟩

/-! ### The rules by which one goes through -/
section
variable {P : Program} {lo N : Nat} {L : Nat → List Nat} {ro : Option Nat} {Q : Exit → Env → List Deferred → AH → Nat → Prop} {env : Env} {ds : List Deferred} {H : AH} {nx : Nat} {k : Env → List Deferred → AH → Nat → Prop}
theorem awy_seq (a b : Code) : awy P lo N L ro (.seq a b) Q env ds H nx = awy P lo N L ro a (thenY (awy P lo N L ro b Q) Q) env ds H nx := (rfl)
theorem awy_skip : awy P lo N L ro .skip Q env ds H nx = Q .normal env ds H nx := (rfl)
theorem awy_ret : awy P lo N L ro .ret Q env ds H nx = Q .ret env ds H nx := (rfl)
theorem awy_exit (id : Nat) : awy P lo N L ro (.exit id) Q env ds H nx = Q (.exit id) env ds H nx := (rfl)
theorem awy_block (id : Nat) (c : Code) : awy P lo N L ro (.block id c) Q env ds H nx = awy P lo N L ro c (blockY id Q) env ds H nx := (rfl)
theorem awy_region (id : Nat) (ops : Array Oper) : awy P lo N L ro (.region id ops false) Q env ds H nx = aopsR P lo ops ops.toList env H nx (regY (L id) Q ds) := (rfl)
def condY (c : Option Value) (P : Program) (lo N : Nat) (L : Nat → List Nat) (ro : Option Nat) (x y : Code) (Q : Exit → Env → List Deferred → AH → Nat → Prop) (env : Env) (ds : List Deferred) (H : AH) (nx : Nat) : Prop :=
  ∃ t, c = some (.bool t) ∧ if t = true then awy P lo N L ro x Q env ds H nx else awy P lo N L ro y Q env ds H nx
theorem awy_cond (c : Operand) (x y : Code) : awy P lo N L ro (.cond c x y) Q env ds H nx = condY (ev env c) P lo N L ro x y Q env ds H nx := (rfl)
theorem condY_true (x y : Code) : condY (some (.bool true)) P lo N L ro x y Q env ds H nx = awy P lo N L ro x Q env ds H nx := by simp [condY]
theorem condY_false (x y : Code) : condY (some (.bool false)) P lo N L ro x y Q env ds H nx = awy P lo N L ro y Q env ds H nx := by simp [condY]
theorem thenY_normal : thenY k Q .normal = k := (rfl)
theorem thenY_ret : thenY k Q .ret = Q .ret := (rfl)
theorem thenY_exit (id : Nat) : thenY k Q (.exit id) = Q (.exit id) := (rfl)
theorem blockY_normal (id : Nat) : blockY id Q .normal = Q .normal := (rfl)
theorem blockY_ret (id : Nat) : blockY id Q .ret = Q .ret := (rfl)
theorem blockY_exit (id id' : Nat) : blockY id Q (.exit id') = if id' = id then Q .normal else Q (.exit id') := (rfl)
theorem regY_app (l : List Nat) : regY l Q ds env H nx = Q .normal (prune l env) ds H nx := (rfl)
theorem awy_loop {c : Code} (I : Nat → Env → AH → Nat → Prop) (m : Nat) (h0 : I m env H nx)
    (h : ∀ m env' H' nx', I m env' H' nx' → nx ≤ nx' → awy P lo N L ro c (thenY (fun env'' ds'' H'' nx'' => ds'' = ds ∧ ∃ m', m' < m ∧ I m' env'' H'' nx'') Q) env' ds H' nx') : awy P lo N L ro (.loop c) Q env ds H nx := ⟨I, m, h0, h⟩

variable {ops : Array Oper} {rest : List Oper} {dst : Option Tmp} {type : TypeId} {pos : String} {after : Array Edge} {K : Value → AH → Nat → Prop} {ke : Env → AH → Nat → Prop} {guard : Option (Nat × Bool)}
def aopsKR (P : Program) (lo : Nat) (ops : Array Oper) (rest : List Oper) (env : Env) (dst : Option Tmp) (k : Env → AH → Nat → Prop) : Value → AH → Nat → Prop := fun v H nx => aopsR P lo ops rest (push env dst v) H nx k
theorem aopsR_nil : aopsR P lo ops [] env H nx ke = ke env H nx := (rfl)
theorem aopsR_cons (op : Op) : aopsR P lo ops ({ dst, op, type, pos, after, guard := none } :: rest) env H nx ke =
    (noDef { dst, op, type, pos, after, guard := none } = true ∧ bopR P lo { dst, op, type, pos, after, guard := none } env H nx (aopsKR P lo ops rest env dst ke)) := (rfl)
theorem aopsKR_app (v : Value) : aopsKR P lo ops rest env dst ke v H nx = aopsR P lo ops rest (push env dst v) H nx ke := (rfl)
theorem bopR_call (f : Operand) (args : Array Operand) (ts : Array TypeId) : bopR P lo { dst, op := .call { callee := .value f, args, argTypes := ts }, type, pos, after, guard } env H nx K = onA (ev env f) (fun g => onA (evs env args.toList) fun l => callY P lo g l K H nx) := by
  simp only [← ex_onA]; rfl
theorem bopR_builtin (b : Builtin) (args : Array Operand) (ts : Array TypeId) : bopR P lo { dst, op := .call { callee := .builtin b, args, argTypes := ts }, type, pos, after, guard } env H nx K = bop P lo { dst, op := .call { callee := .builtin b, args, argTypes := ts }, type, pos, after, guard } env H nx K := (rfl)
theorem callY_func (n : Nat) (a c : Array Value) (l : List Value) : callY P lo (.func (.func n) a c) l K H nx = callQ P lo (.func (.func n) a c) l K H nx := (rfl)
theorem callY_yield (n : Nat) (l : List Value) : callY P lo (.func (.yield n) #[] #[]) l K H nx = roundQ P lo n l K H nx := by simp [callY]
theorem bopR_move (x : Operand) : bopR P lo { dst, op := .move x, type, pos, after, guard } env H nx K = bop P lo { dst, op := .move x, type, pos, after, guard } env H nx K := (rfl)
theorem noDef_move (x : Operand) : noDef { dst, op := .move x, type, pos, after, guard } = true := (rfl)
theorem bopR_assign (x : Operand) : bopR P lo { dst, op := .assign x, type, pos, after, guard } env H nx K = bop P lo { dst, op := .assign x, type, pos, after, guard } env H nx K := (rfl)
theorem noDef_assign (x : Operand) : noDef { dst, op := .assign x, type, pos, after, guard } = true := (rfl)
theorem bopR_unOp (op : UnOp) (t : TypeId) (x : Operand) : bopR P lo { dst, op := .unOp op t x, type, pos, after, guard } env H nx K = bop P lo { dst, op := .unOp op t x, type, pos, after, guard } env H nx K := (rfl)
theorem noDef_unOp (op : UnOp) (t : TypeId) (x : Operand) : noDef { dst, op := .unOp op t x, type, pos, after, guard } = true := (rfl)
theorem bopR_binOp (op : BinOp) (t : TypeId) (x y : Operand) (yt : TypeId) : bopR P lo { dst, op := .binOp op t x y yt, type, pos, after, guard } env H nx K = bop P lo { dst, op := .binOp op t x y yt, type, pos, after, guard } env H nx K := (rfl)
theorem noDef_binOp (op : BinOp) (t : TypeId) (x y : Operand) (yt : TypeId) : noDef { dst, op := .binOp op t x y yt, type, pos, after, guard } = true := (rfl)
theorem bopR_load (t : TypeId) (x : Operand) : bopR P lo { dst, op := .load t x, type, pos, after, guard } env H nx K = bop P lo { dst, op := .load t x, type, pos, after, guard } env H nx K := (rfl)
theorem noDef_load (t : TypeId) (x : Operand) : noDef { dst, op := .load t x, type, pos, after, guard } = true := (rfl)
theorem bopR_extract (x : Operand) (i : Nat) : bopR P lo { dst, op := .extract x i, type, pos, after, guard } env H nx K = bop P lo { dst, op := .extract x i, type, pos, after, guard } env H nx K := (rfl)
theorem noDef_extract (x : Operand) (i : Nat) : noDef { dst, op := .extract x i, type, pos, after, guard } = true := (rfl)
theorem bopR_store (t : TypeId) (x y : Operand) : bopR P lo { dst, op := .store t x y, type, pos, after, guard } env H nx K = bop P lo { dst, op := .store t x y, type, pos, after, guard } env H nx K := (rfl)
theorem noDef_store (t : TypeId) (x y : Operand) : noDef { dst, op := .store t x y, type, pos, after, guard } = true := (rfl)
theorem bopR_alloc (t : TypeId) : bopR P lo { dst, op := .alloc t, type, pos, after, guard } env H nx K = bop P lo { dst, op := .alloc t, type, pos, after, guard } env H nx K := (rfl)
theorem noDef_alloc (t : TypeId) : noDef { dst, op := .alloc t, type, pos, after, guard } = true := (rfl)
theorem bopR_box (t : TypeId) (x : Operand) : bopR P lo { dst, op := .box t x, type, pos, after, guard } env H nx K = bop P lo { dst, op := .box t x, type, pos, after, guard } env H nx K := (rfl)
theorem noDef_box (t : TypeId) (x : Operand) : noDef { dst, op := .box t x, type, pos, after, guard } = true := (rfl)
theorem bopR_buildSlice (t : TypeId) (n : Nat) (ps : Array (Nat × Operand)) : bopR P lo { dst, op := .buildSlice t n ps, type, pos, after, guard } env H nx K = bop P lo { dst, op := .buildSlice t n ps, type, pos, after, guard } env H nx K := (rfl)
theorem noDef_buildSlice (t : TypeId) (n : Nat) (ps : Array (Nat × Operand)) : noDef { dst, op := .buildSlice t n ps, type, pos, after, guard } = true := (rfl)
theorem bopR_range (t : TypeId) (x : Operand) : bopR P lo { dst, op := .range t x, type, pos, after, guard } env H nx K = bop P lo { dst, op := .range t x, type, pos, after, guard } env H nx K := (rfl)
theorem noDef_range (t : TypeId) (x : Operand) : noDef { dst, op := .range t x, type, pos, after, guard } = true := (rfl)
theorem bopR_next (x : Operand) (b : Bool) : bopR P lo { dst, op := .next x b, type, pos, after, guard } env H nx K = bop P lo { dst, op := .next x b, type, pos, after, guard } env H nx K := (rfl)
theorem noDef_next (x : Operand) (b : Bool) : noDef { dst, op := .next x b, type, pos, after, guard } = true := (rfl)
theorem bopR_entry (x : Operand) : bopR P lo { dst, op := .entry x, type, pos, after, guard } env H nx K = bop P lo { dst, op := .entry x, type, pos, after, guard } env H nx K := (rfl)
theorem noDef_entry (x : Operand) : noDef { dst, op := .entry x, type, pos, after, guard } = true := (rfl)
theorem noDef_call (c : Call) : noDef { dst, op := .call c, type, pos, after, guard } = true := (rfl)
end
attribute [go_sem] bopR_move noDef_move bopR_assign noDef_assign bopR_unOp noDef_unOp bopR_binOp noDef_binOp bopR_load noDef_load bopR_extract noDef_extract bopR_store noDef_store bopR_alloc noDef_alloc bopR_box noDef_box bopR_buildSlice noDef_buildSlice bopR_range noDef_range bopR_next noDef_next bopR_entry noDef_entry noDef_call
attribute [go_sem] true_and
attribute [go_sem] awy_seq awy_skip awy_ret awy_exit awy_block awy_region awy_cond condY_true condY_false thenY_normal thenY_ret thenY_exit blockY_normal blockY_ret blockY_exit regY_app aopsR_nil aopsR_cons aopsKR_app bopR_call bopR_builtin callY_func callY_yield

end Go.Proofs.YtngnbafididkcaaGreat
