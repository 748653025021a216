/- OUR OWN LOGIC OVER THE KIT'S. 4: regions do what 'aops' and 'adraw' say. Nothing of the program stands here. -/
import Derived.Test.YtgafnliohmdmoaaL3
namespace Go.Proofs.Ytgafnliohmdmoaa
open Go.RowKit

theorem EnvRel.push {N : Nat} {env : Env} {a : Act} (h : EnvRel N env a) {dst : Option Tmp} (hd : ∀ d, dst = some d → d < N) (v : Value) : EnvRel N (push env dst v) (a.put dst v) := by
  cases dst with
  | none => exact h
  | some d =>
    have hdn := hd d rfl
    refine ⟨by simpa [Act.put] using h.size, h.defers, fun t u hu => ?_⟩
    simp only [Ytgafnliohmdmoaa.push, eg] at hu
    simp only [Act.put]
    split at hu
    · rename_i e
      subst e
      simp only [Option.some.injEq] at hu
      subst hu
      simp [h.size, hdn]
    · rename_i e
      rw [Array.getD_eq_getD_getElem?, Array.getElem?_setIfInBounds_ne e, ← Array.getD_eq_getD_getElem?]
      exact h.tmp t u hu

theorem EnvRel.sub {N : Nat} {env env' : Env} {a : Act} (h : EnvRel N env a) (hs : ∀ t v, eg env' t = some v → eg env t = some v) : EnvRel N env' a :=
  ⟨h.size, h.defers, fun t v hv => h.tmp t v (hs t v hv)⟩

theorem eg_prune (env : Env) : ∀ (L : List Nat) (t : Nat) (v : Value), eg (prune L env) t = some v → eg env t = some v
  | [], _, _, h => by simp [prune, eg] at h
  | k :: L, t, v, h => by
    simp only [prune] at h
    split at h
    · rename_i u hu
      simp only [eg] at h
      split at h
      · rename_i e
        subst e
        rw [hu]; exact h
      · exact eg_prune env L t v h
    · exact eg_prune env L t v h

theorem EnvRel.eval {N : Nat} {env : Env} {a : Act} (h : EnvRel N env a) {x : Operand} (hx : (ev env x).isSome = true) : a.eval x = aev env x := by
  obtain ⟨v, hv⟩ := Option.isSome_iff_exists.1 hx
  unfold aev
  rw [hv]
  cases x with
  | tmp t => exact h.tmp t v hv
  | const u => simp only [ev, Option.some.injEq] at hv; subst hv; rfl
  | global g => simp only [ev, Option.some.injEq] at hv; subst hv; rfl
  | func f => simp only [ev, Option.some.injEq] at hv; subst hv; rfl

theorem EnvRel.exec {N : Nat} {env : Env} {a : Act} (h : EnvRel N env a) {o : Oper} (hk : known env o = true) (hs : ∀ cs b, o.op ≠ .select cs b) : execOp a.eval o = execOp (aev env) o :=
  execOp_congr o hs fun x hx => h.eval (Array.all_eq_true_iff_forall_mem.1 hk x hx)

theorem EnvRel.guard {N : Nat} {env : Env} {a : Act} (h : EnvRel N env a) {ops : Array Oper} {j : Nat} {b : Value} (hg : guardB ops env j = some b) (want : Bool) : (yielded ops a.tmps j == some want) = wantV want b := by
  unfold guardB at hg
  unfold yielded
  cases hd : (ops[j]?).bind (·.dst) with
  | none => rw [hd] at hg; simp at hg
  | some d =>
    rw [hd] at hg
    simp only [Option.bind_some] at hg ⊢
    have h1 := h.tmp d b hg
    rw [Array.getD_eq_getD_getElem?] at h1
    cases h2 : a.tmps[d]? with
    | none =>
      rw [h2] at h1
      simp only [Option.getD_none] at h1
      subst h1
      rfl
    | some u =>
      rw [h2] at h1
      simp only [Option.getD_some] at h1
      subst h1
      cases u <;> first | rfl | (simp only [wantV]; rename_i x; cases x <;> cases want <;> rfl)

/-- What a step leaves, in the model's words. -/
def StepQ (lo : Nat) (w0 : World) (nx0 : Nat) (N : Nat) (a0 : Act) (o : Oper) (R : Value → AH → Nat → Prop) (a : Act) (w : World) : Prop :=
  ∃ v H nx, R v H nx ∧ a = a0.put o.dst v ∧ Rel lo H nx w ∧ BelowD lo w0 w ∧ nx0 ≤ nx ∧ a0.tmps.size = N

theorem aop_sound {P : Program} {lo N : Nat} {o : Oper} {env : Env} {H : AH} {nx : Nat} {R : Value → AH → Nat → Prop} (h : aop P lo o env H nx R) {a : Act} {w : World} (he : EnvRel N env a) (hr : Rel lo H nx w)
    {Q : Exit → Act → World → Prop} : o.wp P a w (StepQ lo w nx N a o R) Q := by
  obtain ⟨hk, hs, hw⟩ := h
  obtain ⟨n, w', H', nx', g1, g2, g3, g4, g5⟩ := aw_sound _ _ _ _ _ hw hr
  unfold Oper.wp
  rw [he.exec hk hs, g1]
  cases n with
  | value v => exact ⟨v, H', nx', g2, rfl, g3, g4, g5, he.size⟩
  | skip => exact ⟨undef, H', nx', g2, rfl, g3, g4, g5, he.size⟩
  | enter f args =>
    refine (g2 w' g3).mono fun e w'' hh => ?_
    obtain ⟨v, H'', nx'', rfl, hv, r, b, hn⟩ := hh
    exact ⟨v, H'', nx'', hv, rfl, r, g4.trans b, by omega, he.size⟩
  | _ => exact g2.elim

/-- What stands behind a code, in the model's words. -/
def liftQ (lo N : Nat) (w0 : World) (nx0 : Nat) (Q : Exit → Env → AH → Nat → Prop) : Exit → Act → World → Prop
  | .panic _, _, _ => False
  | .outgrown, _, _ => False
  | e, a, w => ∃ env H nx, Q e env H nx ∧ EnvRel N env a ∧ Rel lo H nx w ∧ BelowD lo w0 w ∧ nx0 ≤ nx

def liftN (lo N : Nat) (w0 : World) (nx0 : Nat) (K : Env → AH → Nat → Prop) (a : Act) (w : World) : Prop :=
  ∃ env H nx, K env H nx ∧ EnvRel N env a ∧ Rel lo H nx w ∧ BelowD lo w0 w ∧ nx0 ≤ nx

theorem aops_sound {P : Program} {lo N : Nat} {ops : Array Oper} {Q : Exit → Act → World → Prop} {K : Env → AH → Nat → Prop} {w0 : World} {nx0 : Nat}
    (hd : ∀ o ∈ ops, ∀ d, o.dst = some d → d < N) (hQ : ∀ a w, liftN lo N w0 nx0 K a w → Q .normal a w) :
    ∀ (rest : List Oper) (k : Nat), ops.toList.drop k = rest → ∀ (env : Env) (H : AH) (nx : Nat) (a : Act) (w : World), aops P lo ops rest env H nx K → EnvRel N env a → Rel lo H nx w → BelowD lo w0 w → nx0 ≤ nx →
      wpOps P ops Q (List.range' k rest.length) a w
  | [], k, hk, env, H, nx, a, w, h, he, hr, hb, hn => hQ a w ⟨env, H, nx, h, he, hr, hb, hn⟩
  | o :: rest, k, hk, env, H, nx, a, w, h, he, hr, hb, hn => by
    have hok : ops[k]? = some o := by
      have := congrArg List.head? hk
      rw [List.head?_drop] at this
      simpa using this
    have hrest : ops.toList.drop (k + 1) = rest := by
      rw [← List.drop_drop, hk]; rfl
    have hmem : o ∈ ops := Array.mem_of_getElem? hok
    have hdo := hd o hmem
    simp only [List.length_cons, List.range'_succ, wpOps, hok]
    have go : ∀ (env : Env) (a : Act), EnvRel N env a → bop P lo o env H nx (fun v H nx => aops P lo ops rest (push env o.dst v) H nx K) → o.wp P a w (wpOps P ops Q (List.range' (k + 1) rest.length)) Q := fun env a he hop =>
      Oper.wp_mono (fun a' w' ⟨v, H', nx', g1, g2, g3, g4, g5, _⟩ => by
        subst g2
        exact aops_sound hd hQ rest (k + 1) hrest _ H' nx' _ w' g1 (he.push hdo v) g3 (hb.trans g4) (by omega)) (aop_sound (bop_aop hop) he hr)
    simp only [aops] at h
    cases hg : o.guard with
    | none =>
      rw [hg] at h
      have hw : Region.wanted o (yielded ops a.tmps) = true := by simp [Region.wanted, hg]
      rw [if_pos hw]
      exact .inl (go env a he h)
    | some gw =>
      obtain ⟨j, want⟩ := gw
      rw [hg] at h
      obtain ⟨b, hb1, h⟩ := h
      have hy := he.guard hb1 want
      by_cases hbw : wantV want b = true
      · rw [if_pos hbw] at h
        have hw : Region.wanted o (yielded ops a.tmps) = true := by simp only [Region.wanted, hg]; rw [hy, hbw]
        rw [if_pos hw]
        exact .inl (go env a he h)
      · rw [if_neg hbw] at h
        have hw : ¬ Region.wanted o (yielded ops a.tmps) = true := by simp only [Region.wanted, hg]; rw [hy]; exact hbw
        rw [if_neg hw]
        exact aops_sound hd hQ rest (k + 1) hrest _ H nx _ w h (he.push hdo undef) hr hb hn

/-! ### Regions that draw -/
/-- One operation: one that looks at nothing leaves the world; behind any other S holds, or nobody looks any more. -/
def opS (P : Program) (ops : Array Oper) (Q : Exit → Act → World → Prop) (S : World → Prop) (j : Nat) (K : Act → World → Prop) (a : Act) (w : World) : Prop :=
  match ops[j]? with
  | none => False
  | some o => if pureOp o.op = true then ∃ v, Yields P ops o v a ∧ K (a.put o.dst v) w else wpOp P ops Q j (fun a' w' => (lastB ops j = true ∨ S w') ∧ K a' w') a w

/-- Whatever order is picked. -/
def wpAnyS (P : Program) (ops : Array Oper) (Q : Exit → Act → World → Prop) (S : World → Prop) : Nat → Array Bool → Act → World → Prop
  | 0, listed, a, w => Region.ready .any ops listed = [] ∧ Q .normal a w
  | fuel + 1, listed, a, w =>
    (Region.ready .any ops listed = [] → Q .normal a w) ∧
    ∀ i ∈ Region.ready .any ops listed, opS P ops Q S i (wpAnyS P ops Q S fuel (listed.setIfInBounds i true)) a w

theorem wpAny_of_S {P : Program} {ops : Array Oper} {Q : Exit → Act → World → Prop} {S : World → Prop} : ∀ (fuel : Nat) (listed : Array Bool) (a : Act) (w : World), wpAnyS P ops Q S fuel listed a w → wpAny P .any ops Q fuel listed a w
  | 0, _, _, _, h => h
  | fuel + 1, listed, a, w, h => ⟨h.1, fun i hi => by
      have h2 := h.2 i hi
      unfold opS at h2
      cases ho : ops[i]? with
      | none => rw [ho] at h2; exact h2.elim
      | some o =>
        rw [ho] at h2
        simp only at h2
        split at h2
        · obtain ⟨v, hy, hk⟩ := h2
          exact hy.wpOp ho (wpAny_of_S fuel _ _ _ hk)
        · exact wpOp_mono (fun a' w' h' => wpAny_of_S fuel _ a' w' h'.2) h2⟩

/-- What has come up has all come up for which it waited. -/
def Closed (ops : Array Oper) (listed : Array Bool) : Prop := ∀ k o, ops[k]? = some o → listed.getD k false = true → ∀ e ∈ o.after, Region.binds .any e = true → listed.getD e.on false = true

theorem Closed.anc {ops : Array Oper} {listed : Array Bool} (h : Closed ops listed) : ∀ (n j k : Nat), listed.getD j false = true → anc ops n j k = true → listed.getD k false = true
  | 0, _, _, _, h => by exact absurd h (by simp [Ytgafnliohmdmoaa.anc])
  | n + 1, j, k, hj, ha => by
    simp only [Ytgafnliohmdmoaa.anc] at ha
    cases ho : ops[j]? with
    | none => rw [ho] at ha; cases ha
    | some o =>
      rw [ho] at ha
      obtain ⟨e, he, hb⟩ := Array.any_eq_true'.1 ha
      simp only [Bool.and_eq_true, Bool.or_eq_true, beq_iff_eq] at hb
      have h1 := h j o ho hj e he hb.1
      rcases hb.2 with h2 | h2
      · rw [← h2]; exact h1
      · exact h.anc n e.on k h1 h2

theorem Closed.ancReady {ops : Array Oper} {listed : Array Bool} (h : Closed ops listed) {n j k : Nat} (hj : j ∈ Region.ready .any ops listed) (ha : Ytgafnliohmdmoaa.anc ops n j k = true) : listed.getD k false = true := by
  obtain ⟨_, o, ho, hall⟩ := mem_ready.1 hj
  cases n with
  | zero => simp [Ytgafnliohmdmoaa.anc] at ha
  | succ n =>
    simp only [Ytgafnliohmdmoaa.anc, ho] at ha
    obtain ⟨e, he, hb⟩ := Array.any_eq_true'.1 ha
    simp only [Bool.and_eq_true, Bool.or_eq_true, beq_iff_eq] at hb
    have h1 := hall e he hb.1
    rcases hb.2 with h2 | h2
    · rw [← h2]; exact h1
    · exact h.anc n e.on k h1 h2

theorem Closed.next {ops : Array Oper} {listed : Array Bool} (h : Closed ops listed) {j : Nat} (hj : j ∈ Region.ready .any ops listed) : Closed ops (listed.setIfInBounds j true) := by
  intro k o ho hk e he hb
  by_cases hkj : j = k
  · subst hkj
    obtain ⟨_, o', ho', hall⟩ := mem_ready.1 hj
    rw [ho] at ho'
    cases ho'
    exact getD_set_true (hall e he hb)
  · rw [getD_set_ne false hkj] at hk
    exact getD_set_true (h k o ho hk e he hb)

theorem lastB_waits {ops : Array Oper} {i j : Nat} {listed : Array Bool} (hc : Closed ops listed) (hl : lastB ops j = true) (hi : readAt ops i = true) (hij : i ≠ j) (hj : j ∈ Region.ready .any ops listed) : listed.getD i false = true := by
  unfold lastB at hl
  have hlt : i < ops.size := by
    unfold readAt at hi
    cases h : ops[i]? with
    | none => rw [h] at hi; cases hi
    | some o => exact (Array.getElem?_eq_some_iff.1 h).1
  have h1 := List.all_eq_true.1 hl i (List.mem_range.2 hlt)
  simp only [hi, Bool.not_true, Bool.false_or, Bool.or_eq_true, beq_iff_eq, hij, false_or] at h1
  exact hc.ancReady hj h1

theorem unlisted {listed : Array Bool} {i : Nat} (h : listed.getD i true = false) : listed.getD i false = false := by
  rcases Nat.lt_or_ge i listed.size with h' | h'
  · simp [h'] at h ⊢; exact h
  · simp [Array.getElem?_eq_none h'] at h

theorem Yields.ofPut {P : Program} {ops : Array Oper} {oi oj : Oper} {a : Act} {v u : Value} (hap : oi.apart ops oj = true) (hsj : ∀ cs b, oj.op ≠ .select cs b) (h : Yields P ops oj u (a.put oi.dst v)) : Yields P ops oj u a := by
  obtain ⟨h1, _, _⟩ := Oper.apart_spec hap
  exact h.of_same (execOp_put oj hsj a oi.dst v h1).symm (wanted_put oj a oi.dst v h1).symm

theorem YieldsIf.put {P : Program} {ops : Array Oper} {Y : World → Prop} {oi oj : Oper} {a : Act} {v u : Value} (hap : oi.apart ops oj = true) (hsi : ∀ cs b, oi.op ≠ .select cs b) (h : YieldsIf P ops Y oi v a) : YieldsIf P ops Y oi v (a.put oj.dst u) := by
  obtain ⟨_, _, h3⟩ := Oper.apart_spec hap
  exact h.of_same (execOp_put oi hsi a oj.dst u h3) (wanted_put oi a oj.dst u h3)

/-- Number i may be taken first. Y: what it needs of the world; 'self': how it comes up itself. -/
theorem wpAnyS_first {P : Program} {ops : Array Oper} {Q : Exit → Act → World → Prop} {S Y : World → Prop} {i : Nat} {oi : Oper} {v : Value} (hi : ops[i]? = some oi) (hsel : ∀ (j : Nat) (o : Oper) cs b, ops[j]? = some o → o.op ≠ .select cs b)
    (hQ : ∀ c a w, Q (.panic c) (a.put oi.dst v) w → Q (.panic c) a w)
    (self : ∀ (K : Act → World → Prop) a w, YieldsIf P ops Y oi v a → Y w → K (a.put oi.dst v) w → opS P ops Q S i K a w)
    (keep : ∀ j listed w, Closed ops listed → j ≠ i → j ∈ Region.ready .any ops listed → listed.getD i true = false → (lastB ops j = true ∨ S w) → Y w) :
    ∀ (fuel : Nat) (listed : Array Bool) (a : Act) (w : World), Closed ops listed →
      (∀ j oj, ops[j]? = some oj → j ≠ i → listed.getD j true = false → (∀ e ∈ oj.after, Region.binds .any e = true → e.on ≠ i) → oi.apart ops oj = true) →
      i ∈ Region.ready .any ops listed → YieldsIf P ops Y oi v a → Y w →
      wpAnyS P ops Q S fuel (listed.setIfInBounds i true) (a.put oi.dst v) w → wpAnyS P ops Q S (fuel + 1) listed a w := by
  intro fuel
  induction fuel with
  | zero =>
    intro listed a w _ _ hr hy hS H
    refine ⟨fun h => (by rw [h] at hr; cases hr), fun j hj => ?_⟩
    by_cases hji : j = i
    · subst hji; exact self _ a w hy hS H
    · have := ready_mono hj hji
      rw [H.1] at this
      cases this
  | succ fuel ih =>
    intro listed a w hcl hfree hr hy hS H
    refine ⟨fun h => (by rw [h] at hr; cases hr), fun j hj => ?_⟩
    by_cases hji : j = i
    · subst hji; exact self _ a w hy hS H
    · have h1 := H.2 j (ready_mono hj hji)
      obtain ⟨hjun, oj, hoj, hall⟩ := mem_ready.1 hj
      have hiun := (mem_ready.1 hr).1
      have hnot : ∀ e ∈ oj.after, Region.binds .any e = true → e.on ≠ i := fun e he hb heq => by
        have h1 := hall e he hb
        rw [heq, unlisted hiun] at h1
        cases h1
      have hap := hfree j oj hoj hji hjun hnot
      have hfree' : ∀ k ok, ops[k]? = some ok → k ≠ i → (listed.setIfInBounds j true).getD k true = false →
          (∀ e ∈ ok.after, Region.binds .any e = true → e.on ≠ i) → oi.apart ops ok = true := fun k ok hk hki hun hno => by
        refine hfree k ok hk hki ?_ hno
        by_cases hjk : j = k
        · subst hjk; exact hjun
        · rw [getD_set_ne true hjk] at hun; exact hun
      have hsi := fun cs b => hsel i oi cs b hi
      have hsj := fun cs b => hsel j oj cs b hoj
      obtain ⟨_, hdd, _⟩ := Oper.apart_spec hap
      unfold opS at h1 ⊢
      rw [hoj] at h1 ⊢
      simp only at h1 ⊢
      split at h1
      · rename_i hp
        rw [if_pos hp]
        obtain ⟨u, hu, hk⟩ := h1
        refine ⟨u, Yields.ofPut hap hsj hu, ih (listed.setIfInBounds j true) _ w (hcl.next hj) hfree' (ready_mono hr (Ne.symm hji)) (YieldsIf.put hap hsi hy) hS ?_⟩
        rw [Array.setIfInBounds_comm _ _ hji, ← Act.put_comm a v u hdd]
        exact hk
      · rename_i hp
        rw [if_neg hp]
        have h2 := wpOp_putIf hoj hap hsi hsj hQ hy h1
        refine wpOp_mono (fun a' w' h3 => ⟨h3.2.1, ih (listed.setIfInBounds j true) a' w' (hcl.next hj) hfree' (ready_mono hr (Ne.symm hji)) h3.1 (keep j listed w' hcl hji hj hiun h3.2.1) ?_⟩) h2
        rw [Array.setIfInBounds_comm _ _ hji]
        exact h3.2.2

end Go.Proofs.Ytgafnliohmdmoaa
