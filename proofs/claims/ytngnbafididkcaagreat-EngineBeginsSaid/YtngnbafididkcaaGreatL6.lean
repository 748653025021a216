/- OUR OWN LOGIC OVER THE KIT'S. 4: regions do what 'aops' and 'adraw' say. Nothing of the program stands here. OUR OWN LOGIC OVER THE KIT'S. 5: a region that draws does what 'adraw' says; codes do what 'awp' says; a function's contract from its body. Nothing of the program stands here. OUR OWN LOGIC OVER THE KIT'S. 6: a function's contract from its body; the rules by which a body is gone through. Nothing of the program stands here. -/
import Derived.Test.YtngnbafididkcaaGreatL3
section
namespace Go.Proofs.YtngnbafididkcaaGreat
open Go.RowKit

theorem EnvRel.push {N : Nat} {env : Env} {a : Act} (h : EnvRel N env a) {dst : Option Tmp} (hd : ∀ d, dst = some d → d < N) (v : Value) : EnvRel N (push env dst v) (a.put dst v) := by
  cases dst with
  | none => exact h
  | some d =>
    have hdn := hd d rfl
    refine ⟨by simpa [Act.put] using h.size, h.defers, fun t u hu => ?_⟩
    simp only [YtngnbafididkcaaGreat.push, eg] at hu
    simp only [Act.put]
    split at hu
    · rename_i e
      subst e
      simp only [Option.some.injEq] at hu
      subst hu
      simp [h.size, hdn]
    · rename_i e
      rw [Array.getD_eq_getD_getElem?, Array.getElem?_setIfInBounds_ne e, ← Array.getD_eq_getD_getElem?]
      exact h.tmp t u hu

theorem EnvRel.sub {N : Nat} {env env' : Env} {a : Act} (h : EnvRel N env a) (hs : ∀ t v, eg env' t = some v → eg env t = some v) : EnvRel N env' a :=
  ⟨h.size, h.defers, fun t v hv => h.tmp t v (hs t v hv)⟩

theorem eg_prune (env : Env) : ∀ (L : List Nat) (t : Nat) (v : Value), eg (prune L env) t = some v → eg env t = some v
  | [], _, _, h => by simp [prune, eg] at h
  | k :: L, t, v, h => by
    simp only [prune] at h
    split at h
    · rename_i u hu
      simp only [eg] at h
      split at h
      · rename_i e
        subst e
        rw [hu]; exact h
      · exact eg_prune env L t v h
    · exact eg_prune env L t v h

theorem EnvRel.eval {N : Nat} {env : Env} {a : Act} (h : EnvRel N env a) {x : Operand} (hx : (ev env x).isSome = true) : a.eval x = aev env x := by
  obtain ⟨v, hv⟩ := Option.isSome_iff_exists.1 hx
  unfold aev
  rw [hv]
  cases x with
  | tmp t => exact h.tmp t v hv
  | const u => simp only [ev, Option.some.injEq] at hv; subst hv; rfl
  | global g => simp only [ev, Option.some.injEq] at hv; subst hv; rfl
  | func f => simp only [ev, Option.some.injEq] at hv; subst hv; rfl

theorem EnvRel.exec {N : Nat} {env : Env} {a : Act} (h : EnvRel N env a) {o : Oper} (hk : known env o = true) (hs : ∀ cs b, o.op ≠ .select cs b) : execOp a.eval o = execOp (aev env) o :=
  execOp_congr o hs fun x hx => h.eval (Array.all_eq_true_iff_forall_mem.1 hk x hx)

theorem EnvRel.guard {N : Nat} {env : Env} {a : Act} (h : EnvRel N env a) {ops : Array Oper} {j : Nat} {b : Value} (hg : guardB ops env j = some b) (want : Bool) : (yielded ops a.tmps j == some want) = wantV want b := by
  unfold guardB at hg
  unfold yielded
  cases hd : (ops[j]?).bind (·.dst) with
  | none => rw [hd] at hg; simp at hg
  | some d =>
    rw [hd] at hg
    simp only [Option.bind_some] at hg ⊢
    have h1 := h.tmp d b hg
    rw [Array.getD_eq_getD_getElem?] at h1
    cases h2 : a.tmps[d]? with
    | none =>
      rw [h2] at h1
      simp only [Option.getD_none] at h1
      subst h1
      rfl
    | some u =>
      rw [h2] at h1
      simp only [Option.getD_some] at h1
      subst h1
      cases u <;> first | rfl | (simp only [wantV]; rename_i x; cases x <;> cases want <;> rfl)

/-- What a step leaves, in the model's words. -/
def StepQ (lo : Nat) (w0 : World) (nx0 : Nat) (N : Nat) (a0 : Act) (o : Oper) (R : Value → AH → Nat → Prop) (a : Act) (w : World) : Prop :=
  ∃ v H nx, R v H nx ∧ a = a0.put o.dst v ∧ Rel lo H nx w ∧ BelowD lo w0 w ∧ nx0 ≤ nx ∧ a0.tmps.size = N

theorem aop_sound {P : Program} {lo N : Nat} {o : Oper} {env : Env} {H : AH} {nx : Nat} {R : Value → AH → Nat → Prop} (h : aop P lo o env H nx R) {a : Act} {w : World} (he : EnvRel N env a) (hr : Rel lo H nx w)
    {Q : Exit → Act → World → Prop} : o.wp P a w (StepQ lo w nx N a o R) Q := by
  obtain ⟨hk, hs, hw⟩ := h
  obtain ⟨n, w', H', nx', g1, g2, g3, g4, g5⟩ := aw_sound _ _ _ _ _ hw hr
  unfold Oper.wp
  rw [he.exec hk hs, g1]
  cases n with
  | value v => exact ⟨v, H', nx', g2, rfl, g3, g4, g5, he.size⟩
  | skip => exact ⟨undef, H', nx', g2, rfl, g3, g4, g5, he.size⟩
  | enter f args =>
    refine (g2 w' g3).mono fun e w'' hh => ?_
    obtain ⟨v, H'', nx'', rfl, hv, r, b, hn⟩ := hh
    exact ⟨v, H'', nx'', hv, rfl, r, g4.trans b, by omega, he.size⟩
  | _ => exact g2.elim

/-- What stands behind a code, in the model's words. -/
def liftQ (lo N : Nat) (w0 : World) (nx0 : Nat) (Q : Exit → Env → AH → Nat → Prop) : Exit → Act → World → Prop
  | .panic _, _, _ => False
  | .outgrown, _, _ => False
  | e, a, w => ∃ env H nx, Q e env H nx ∧ EnvRel N env a ∧ Rel lo H nx w ∧ BelowD lo w0 w ∧ nx0 ≤ nx

def liftN (lo N : Nat) (w0 : World) (nx0 : Nat) (K : Env → AH → Nat → Prop) (a : Act) (w : World) : Prop :=
  ∃ env H nx, K env H nx ∧ EnvRel N env a ∧ Rel lo H nx w ∧ BelowD lo w0 w ∧ nx0 ≤ nx

theorem aops_sound {P : Program} {lo N : Nat} {ops : Array Oper} {Q : Exit → Act → World → Prop} {K : Env → AH → Nat → Prop} {w0 : World} {nx0 : Nat}
    (hd : ∀ o ∈ ops, ∀ d, o.dst = some d → d < N) (hQ : ∀ a w, liftN lo N w0 nx0 K a w → Q .normal a w) :
    ∀ (rest : List Oper) (k : Nat), ops.toList.drop k = rest → ∀ (env : Env) (H : AH) (nx : Nat) (a : Act) (w : World), aops P lo ops rest env H nx K → EnvRel N env a → Rel lo H nx w → BelowD lo w0 w → nx0 ≤ nx →
      wpOps P ops Q (List.range' k rest.length) a w
  | [], k, hk, env, H, nx, a, w, h, he, hr, hb, hn => hQ a w ⟨env, H, nx, h, he, hr, hb, hn⟩
  | o :: rest, k, hk, env, H, nx, a, w, h, he, hr, hb, hn => by
    have hok : ops[k]? = some o := by
      have := congrArg List.head? hk
      rw [List.head?_drop] at this
      simpa using this
    have hrest : ops.toList.drop (k + 1) = rest := by
      rw [← List.drop_drop, hk]; rfl
    have hmem : o ∈ ops := Array.mem_of_getElem? hok
    have hdo := hd o hmem
    simp only [List.length_cons, List.range'_succ, wpOps, hok]
    have go : ∀ (env : Env) (a : Act), EnvRel N env a → bop P lo o env H nx (fun v H nx => aops P lo ops rest (push env o.dst v) H nx K) → o.wp P a w (wpOps P ops Q (List.range' (k + 1) rest.length)) Q := fun env a he hop =>
      Oper.wp_mono (fun a' w' ⟨v, H', nx', g1, g2, g3, g4, g5, _⟩ => by
        subst g2
        exact aops_sound hd hQ rest (k + 1) hrest _ H' nx' _ w' g1 (he.push hdo v) g3 (hb.trans g4) (by omega)) (aop_sound (bop_aop hop) he hr)
    simp only [aops] at h
    cases hg : o.guard with
    | none =>
      rw [hg] at h
      have hw : Region.wanted o (yielded ops a.tmps) = true := by simp [Region.wanted, hg]
      rw [if_pos hw]
      exact .inl (go env a he h)
    | some gw =>
      obtain ⟨j, want⟩ := gw
      rw [hg] at h
      obtain ⟨b, hb1, h⟩ := h
      have hy := he.guard hb1 want
      by_cases hbw : wantV want b = true
      · rw [if_pos hbw] at h
        have hw : Region.wanted o (yielded ops a.tmps) = true := by simp only [Region.wanted, hg]; rw [hy, hbw]
        rw [if_pos hw]
        exact .inl (go env a he h)
      · rw [if_neg hbw] at h
        have hw : ¬ Region.wanted o (yielded ops a.tmps) = true := by simp only [Region.wanted, hg]; rw [hy]; exact hbw
        rw [if_neg hw]
        exact aops_sound hd hQ rest (k + 1) hrest _ H nx _ w h (he.push hdo undef) hr hb hn

/-! ### Regions that draw -/
/-- One operation: one that looks at nothing leaves the world; behind any other S holds, or nobody looks any more. -/
def opS (P : Program) (ops : Array Oper) (Q : Exit → Act → World → Prop) (S : World → Prop) (j : Nat) (K : Act → World → Prop) (a : Act) (w : World) : Prop :=
  match ops[j]? with
  | none => False
  | some o => if pureOp o.op = true then ∃ v, Yields P ops o v a ∧ K (a.put o.dst v) w else wpOp P ops Q j (fun a' w' => (lastB ops j = true ∨ S w') ∧ K a' w') a w

/-- Whatever order is picked. -/
def wpAnyS (P : Program) (ops : Array Oper) (Q : Exit → Act → World → Prop) (S : World → Prop) : Nat → Array Bool → Act → World → Prop
  | 0, listed, a, w => Region.ready .any ops listed = [] ∧ Q .normal a w
  | fuel + 1, listed, a, w =>
    (Region.ready .any ops listed = [] → Q .normal a w) ∧
    ∀ i ∈ Region.ready .any ops listed, opS P ops Q S i (wpAnyS P ops Q S fuel (listed.setIfInBounds i true)) a w

theorem wpAny_of_S {P : Program} {ops : Array Oper} {Q : Exit → Act → World → Prop} {S : World → Prop} : ∀ (fuel : Nat) (listed : Array Bool) (a : Act) (w : World), wpAnyS P ops Q S fuel listed a w → wpAny P .any ops Q fuel listed a w
  | 0, _, _, _, h => h
  | fuel + 1, listed, a, w, h => ⟨h.1, fun i hi => by
      have h2 := h.2 i hi
      unfold opS at h2
      cases ho : ops[i]? with
      | none => rw [ho] at h2; exact h2.elim
      | some o =>
        rw [ho] at h2
        simp only at h2
        split at h2
        · obtain ⟨v, hy, hk⟩ := h2
          exact hy.wpOp ho (wpAny_of_S fuel _ _ _ hk)
        · exact wpOp_mono (fun a' w' h' => wpAny_of_S fuel _ a' w' h'.2) h2⟩

/-- What has come up has all come up for which it waited. -/
def Closed (ops : Array Oper) (listed : Array Bool) : Prop := ∀ k o, ops[k]? = some o → listed.getD k false = true → ∀ e ∈ o.after, Region.binds .any e = true → listed.getD e.on false = true

theorem Closed.anc {ops : Array Oper} {listed : Array Bool} (h : Closed ops listed) : ∀ (n j k : Nat), listed.getD j false = true → anc ops n j k = true → listed.getD k false = true
  | 0, _, _, _, h => by exact absurd h (by simp [YtngnbafididkcaaGreat.anc])
  | n + 1, j, k, hj, ha => by
    simp only [YtngnbafididkcaaGreat.anc] at ha
    cases ho : ops[j]? with
    | none => rw [ho] at ha; cases ha
    | some o =>
      rw [ho] at ha
      obtain ⟨e, he, hb⟩ := Array.any_eq_true'.1 ha
      simp only [Bool.and_eq_true, Bool.or_eq_true, beq_iff_eq] at hb
      have h1 := h j o ho hj e he hb.1
      rcases hb.2 with h2 | h2
      · rw [← h2]; exact h1
      · exact h.anc n e.on k h1 h2

theorem Closed.ancReady {ops : Array Oper} {listed : Array Bool} (h : Closed ops listed) {n j k : Nat} (hj : j ∈ Region.ready .any ops listed) (ha : YtngnbafididkcaaGreat.anc ops n j k = true) : listed.getD k false = true := by
  obtain ⟨_, o, ho, hall⟩ := mem_ready.1 hj
  cases n with
  | zero => simp [YtngnbafididkcaaGreat.anc] at ha
  | succ n =>
    simp only [YtngnbafididkcaaGreat.anc, ho] at ha
    obtain ⟨e, he, hb⟩ := Array.any_eq_true'.1 ha
    simp only [Bool.and_eq_true, Bool.or_eq_true, beq_iff_eq] at hb
    have h1 := hall e he hb.1
    rcases hb.2 with h2 | h2
    · rw [← h2]; exact h1
    · exact h.anc n e.on k h1 h2

theorem Closed.next {ops : Array Oper} {listed : Array Bool} (h : Closed ops listed) {j : Nat} (hj : j ∈ Region.ready .any ops listed) : Closed ops (listed.setIfInBounds j true) := by
  intro k o ho hk e he hb
  by_cases hkj : j = k
  · subst hkj
    obtain ⟨_, o', ho', hall⟩ := mem_ready.1 hj
    rw [ho] at ho'
    cases ho'
    exact getD_set_true (hall e he hb)
  · rw [getD_set_ne false hkj] at hk
    exact getD_set_true (h k o ho hk e he hb)

theorem lastB_waits {ops : Array Oper} {i j : Nat} {listed : Array Bool} (hc : Closed ops listed) (hl : lastB ops j = true) (hi : readAt ops i = true) (hij : i ≠ j) (hj : j ∈ Region.ready .any ops listed) : listed.getD i false = true := by
  unfold lastB at hl
  have hlt : i < ops.size := by
    unfold readAt at hi
    cases h : ops[i]? with
    | none => rw [h] at hi; cases hi
    | some o => exact (Array.getElem?_eq_some_iff.1 h).1
  have h1 := List.all_eq_true.1 hl i (List.mem_range.2 hlt)
  simp only [hi, Bool.not_true, Bool.false_or, Bool.or_eq_true, beq_iff_eq, hij, false_or] at h1
  exact hc.ancReady hj h1

theorem unlisted {listed : Array Bool} {i : Nat} (h : listed.getD i true = false) : listed.getD i false = false := by
  rcases Nat.lt_or_ge i listed.size with h' | h'
  · simp [h'] at h ⊢; exact h
  · simp [Array.getElem?_eq_none h'] at h

theorem Yields.ofPut {P : Program} {ops : Array Oper} {oi oj : Oper} {a : Act} {v u : Value} (hap : oi.apart ops oj = true) (hsj : ∀ cs b, oj.op ≠ .select cs b) (h : Yields P ops oj u (a.put oi.dst v)) : Yields P ops oj u a := by
  obtain ⟨h1, _, _⟩ := Oper.apart_spec hap
  exact h.of_same (execOp_put oj hsj a oi.dst v h1).symm (wanted_put oj a oi.dst v h1).symm

theorem YieldsIf.put {P : Program} {ops : Array Oper} {Y : World → Prop} {oi oj : Oper} {a : Act} {v u : Value} (hap : oi.apart ops oj = true) (hsi : ∀ cs b, oi.op ≠ .select cs b) (h : YieldsIf P ops Y oi v a) : YieldsIf P ops Y oi v (a.put oj.dst u) := by
  obtain ⟨_, _, h3⟩ := Oper.apart_spec hap
  exact h.of_same (execOp_put oi hsi a oj.dst u h3) (wanted_put oi a oj.dst u h3)

/-- Number i may be taken first. Y: what it needs of the world; 'self': how it comes up itself. -/
theorem wpAnyS_first {P : Program} {ops : Array Oper} {Q : Exit → Act → World → Prop} {S Y : World → Prop} {i : Nat} {oi : Oper} {v : Value} (hi : ops[i]? = some oi) (hsel : ∀ (j : Nat) (o : Oper) cs b, ops[j]? = some o → o.op ≠ .select cs b)
    (hQ : ∀ c a w, Q (.panic c) (a.put oi.dst v) w → Q (.panic c) a w)
    (self : ∀ (K : Act → World → Prop) a w, YieldsIf P ops Y oi v a → Y w → K (a.put oi.dst v) w → opS P ops Q S i K a w)
    (keep : ∀ j listed w, Closed ops listed → j ≠ i → j ∈ Region.ready .any ops listed → listed.getD i true = false → (lastB ops j = true ∨ S w) → Y w) :
    ∀ (fuel : Nat) (listed : Array Bool) (a : Act) (w : World), Closed ops listed →
      (∀ j oj, ops[j]? = some oj → j ≠ i → listed.getD j true = false → (∀ e ∈ oj.after, Region.binds .any e = true → e.on ≠ i) → oi.apart ops oj = true) →
      i ∈ Region.ready .any ops listed → YieldsIf P ops Y oi v a → Y w →
      wpAnyS P ops Q S fuel (listed.setIfInBounds i true) (a.put oi.dst v) w → wpAnyS P ops Q S (fuel + 1) listed a w := by
  intro fuel
  induction fuel with
  | zero =>
    intro listed a w _ _ hr hy hS H
    refine ⟨fun h => (by rw [h] at hr; cases hr), fun j hj => ?_⟩
    by_cases hji : j = i
    · subst hji; exact self _ a w hy hS H
    · have := ready_mono hj hji
      rw [H.1] at this
      cases this
  | succ fuel ih =>
    intro listed a w hcl hfree hr hy hS H
    refine ⟨fun h => (by rw [h] at hr; cases hr), fun j hj => ?_⟩
    by_cases hji : j = i
    · subst hji; exact self _ a w hy hS H
    · have h1 := H.2 j (ready_mono hj hji)
      obtain ⟨hjun, oj, hoj, hall⟩ := mem_ready.1 hj
      have hiun := (mem_ready.1 hr).1
      have hnot : ∀ e ∈ oj.after, Region.binds .any e = true → e.on ≠ i := fun e he hb heq => by
        have h1 := hall e he hb
        rw [heq, unlisted hiun] at h1
        cases h1
      have hap := hfree j oj hoj hji hjun hnot
      have hfree' : ∀ k ok, ops[k]? = some ok → k ≠ i → (listed.setIfInBounds j true).getD k true = false →
          (∀ e ∈ ok.after, Region.binds .any e = true → e.on ≠ i) → oi.apart ops ok = true := fun k ok hk hki hun hno => by
        refine hfree k ok hk hki ?_ hno
        by_cases hjk : j = k
        · subst hjk; exact hjun
        · rw [getD_set_ne true hjk] at hun; exact hun
      have hsi := fun cs b => hsel i oi cs b hi
      have hsj := fun cs b => hsel j oj cs b hoj
      obtain ⟨_, hdd, _⟩ := Oper.apart_spec hap
      unfold opS at h1 ⊢
      rw [hoj] at h1 ⊢
      simp only at h1 ⊢
      split at h1
      · rename_i hp
        rw [if_pos hp]
        obtain ⟨u, hu, hk⟩ := h1
        refine ⟨u, Yields.ofPut hap hsj hu, ih (listed.setIfInBounds j true) _ w (hcl.next hj) hfree' (ready_mono hr (Ne.symm hji)) (YieldsIf.put hap hsi hy) hS ?_⟩
        rw [Array.setIfInBounds_comm _ _ hji, ← Act.put_comm a v u hdd]
        exact hk
      · rename_i hp
        rw [if_neg hp]
        have h2 := wpOp_putIf hoj hap hsi hsj hQ hy h1
        refine wpOp_mono (fun a' w' h3 => ⟨h3.2.1, ih (listed.setIfInBounds j true) a' w' (hcl.next hj) hfree' (ready_mono hr (Ne.symm hji)) h3.1 (keep j listed w' hcl hji hj hiun h3.2.1) ?_⟩) h2
        rw [Array.setIfInBounds_comm _ _ hji]
        exact h3.2.2

end Go.Proofs.YtngnbafididkcaaGreat
end
section
namespace Go.Proofs.YtngnbafididkcaaGreat
open Go.RowKit

theorem sees_empty (lo : Nat) (w : World) : Sees lo AH.empty w := ⟨(fun _ _ _ h => nomatch h), (fun _ _ h => nomatch h), (fun _ _ _ h => nomatch h)⟩

theorem wpAnyS_done {P : Program} {ops : Array Oper} {Q : Exit → Act → World → Prop} {S : World → Prop} {listed : Array Bool} {a : Act} {w : World} (hr : Region.ready .any ops listed = []) (h : Q .normal a w) : ∀ fuel, wpAnyS P ops Q S fuel listed a w
  | 0 => ⟨hr, h⟩
  | _ + 1 => ⟨fun _ => h, fun i hi => by rw [hr] at hi; cases hi⟩

theorem keeps_sees {lo nx0 nx : Nat} {H0 H : AH} {w0 w : World} (h0 : Rel lo H0 nx0 w0) (hk : Keeps nx0 H0 H) (hr : Rel lo H nx w) : Sees lo H0 w := by
  refine ⟨fun b o v hv => ?_, fun b ob hb => ?_, fun b e n ht => ?_⟩
  · exact (hr.c b o v (hk.1 b o v (h0.c _ _ _ hv).1 hv)).2.1
  · exact (hr.o b ob (hk.2.1 b ob (h0.o _ _ hb).1 hb)).2
  · exact (hr.t b e n (hk.2.2 b _ (h0.t _ _ _ ht).1 ht)).2
theorem Rel.sub {lo nx : Nat} {H0 H : AH} {w : World} (hs : AH.Sub H0 H) (hr : Rel lo H nx w) : Rel lo H0 nx w :=
  ⟨hr.lo_nx, hr.nx_size, fun b o v h => hr.c b o v (hs.1 b o v h), fun b ob h => hr.o b ob (hs.2.1 b ob h), fun b e n h => hr.t b e n (hs.2.2.1 b _ h), fun k h => hr.d k (hs.2.2.2 k h)⟩

theorem ordOk_F (ops : Array Oper) : ∀ (ord : List Nat) (listed : Array Bool), ordOk ops ord listed = ordOkF (fun listed => (Region.ready .any ops listed).isEmpty) ops ord listed
  | [], _ => rfl
  | i :: rest, listed => by
    unfold ordOk ordOkF
    rw [ordOk_F ops rest]

theorem adraw_soundF {P : Program} {lo N : Nat} {ops : Array Oper} {Q : Exit → Act → World → Prop} {K : Env → AH → Nat → Prop} {w0 ws : World} {nxs nx0 : Nat} {H0 : AH} (h0 : Rel lo H0 nx0 ws)
    (hd : ∀ o ∈ ops, ∀ d, o.dst = some d → d < N) (hsel : ∀ (j : Nat) (o : Oper) cs b, ops[j]? = some o → o.op ≠ .select cs b)
    (hQp : ∀ c a w, ¬ Q (.panic c) a w) {fin : Array Bool → Bool} {n0 : Nat}
    (hfin : ∀ (listed : Array Bool) (fuel : Nat) (env : Env) (H : AH) (nx : Nat) (a : Act) (w : World), K env H nx → fin listed = true → Closed ops listed → n0 ≤ fuel → EnvRel N env a → Rel lo H nx w → BelowD lo w0 w → nxs ≤ nx → (Sees lo H0 w ∨ ∀ k, readAt ops k = true → listed.getD k false = true) → wpAnyS P ops Q (Sees lo H0) fuel listed a w) :
    ∀ (ord : List Nat) (listed : Array Bool) (fuel : Nat) (env : Env) (H : AH) (nx : Nat) (a : Act) (w : World), adraw P lo ops H0 nx0 ord env H nx K → ordOkF fin ops ord listed = true → Closed ops listed →
      ord.length + n0 ≤ fuel → EnvRel N env a → Rel lo H nx w → BelowD lo w0 w → nxs ≤ nx → (Sees lo H0 w ∨ ∀ k, readAt ops k = true → listed.getD k false = true) → wpAnyS P ops Q (Sees lo H0) fuel listed a w
  | [], listed, fuel, env, H, nx, a, w, h, ho, hc, hf, he, hr, hb, hn, hs => by
    exact hfin listed fuel env H nx a w h ho hc (by simpa using hf) he hr hb hn hs
  | i :: rest, listed, fuel, env, H, nx, a, w, h, ho, hc, hf, he, hr, hb, hn, hs => by
    obtain ⟨fuel, rfl⟩ : ∃ m, fuel = m + 1 := ⟨fuel - 1, by simp at hf; omega⟩
    have hf' : rest.length + n0 ≤ fuel := by simp at hf; omega
    simp only [ordOkF, Bool.and_eq_true] at ho
    obtain ⟨ho1, ho2⟩ := ho
    simp only [adraw] at h
    cases hoi : ops[i]? with
    | none => rw [hoi] at h; exact h.elim
    | some o =>
      rw [hoi] at h ho1
      simp only [Bool.and_eq_true] at h ho1
      obtain ⟨hready, hcls⟩ := ho1
      have hready : i ∈ Region.ready .any ops listed := by simpa using hready
      have hun := (mem_ready.1 hready).1
      have hmem : o ∈ ops := Array.mem_of_getElem? hoi
      have hdo := hd o hmem
      have hc' := hc.next hready
      have hread' : ∀ (w' : World), (Sees lo H0 w' ∨ ∀ k, readAt ops k = true → listed.getD k false = true) → (Sees lo H0 w' ∨ ∀ k, readAt ops k = true → (listed.setIfInBounds i true).getD k false = true) := fun w' hh => hh.imp id fun g k hk => getD_set_true (g k hk)
      -- taking it first
      have first : ∀ (v : Value) (Y : World → Prop), Region.free .any ops listed i = true → YieldsIf P ops Y o v a → Y w →
          (∀ (K : Act → World → Prop) a w, YieldsIf P ops Y o v a → Y w → K (a.put o.dst v) w → opS P ops Q (Sees lo H0) i K a w) →
          (∀ j listed w, Closed ops listed → j ≠ i → j ∈ Region.ready .any ops listed → listed.getD i true = false → (lastB ops j = true ∨ Sees lo H0 w) → Y w) →
          adraw P lo ops H0 nx0 rest (push env o.dst v) H nx K → wpAnyS P ops Q (Sees lo H0) (fuel + 1) listed a w := fun v Y hfree hy hYw self keep hk =>
        wpAnyS_first hoi hsel (fun c a w hq => (hQp _ _ _ hq).elim) self keep fuel listed a w hc (Region.free_spec hoi hfree) hready hy hYw
          (adraw_soundF h0 hd hsel hQp hfin rest _ fuel _ H nx _ w hk ho2 hc' hf' (he.push hdo v) hr hb hn (hread' w hs))
      -- of each make
      have selfPure : pureOp o.op = true → ∀ (v : Value) (K : Act → World → Prop) a w, YieldsIf P ops (fun _ => True) o v a → True → K (a.put o.dst v) w → opS P ops Q (Sees lo H0) i K a w := fun hp v K a w hy _ hk => by
        unfold opS
        rw [hoi]
        simp only [hp, if_true]
        exact ⟨v, hy.imp (fun ⟨h1, h2⟩ => ⟨h1, fun w => h2 w trivial⟩) id, hk⟩
      have selfRead : pureOp o.op = false → ∀ (v : Value) (K : Act → World → Prop) a w, YieldsIf P ops (Sees lo H0) o v a → Sees lo H0 w → K (a.put o.dst v) w → opS P ops Q (Sees lo H0) i K a w := fun hp v K a w hy hS hk => by
        unfold opS
        rw [hoi]
        simp only [hp, Bool.false_eq_true, if_false]
        exact hy.wpOp hoi hS ⟨.inr hS, hk⟩
      have keepRead : readOp o.op = true → ∀ j listed w, Closed ops listed → j ≠ i → j ∈ Region.ready .any ops listed → listed.getD i true = false → (lastB ops j = true ∨ Sees lo H0 w) → Sees lo H0 w := fun hro j listed w hcl hji hj hui hh => by
        rcases hh with hl | hS
        · have := lastB_waits hcl hl (i := i) (by unfold readAt; rw [hoi]; exact hro) (Ne.symm hji) hj
          rw [unlisted hui] at this
          cases this
        · exact hS
      have seesNow : readOp o.op = true → Sees lo H0 w := fun hro => hs.resolve_right fun g => by
        have := g i (by unfold readAt; rw [hoi]; exact hro)
        rw [unlisted hun] at this
        cases this
      have eff : pureOp o.op = false → readOp o.op = false → Region.ready .any ops listed = [i] := fun hp hro => by
        rw [hp, hro] at hcls
        simpa using hcls
      have freeQ : (pureOp o.op || readOp o.op) = true → Region.free .any ops listed i = true := fun hp => by
        rw [hp] at hcls
        simpa using hcls
      -- an operation that is carried out
      have carried : (match pureOp o.op, readOp o.op with
        | true, _ => yieldQ P AH.empty env o fun v => adraw P lo ops H0 nx0 rest (push env o.dst v) H nx K
        | false, true => yieldQ P H0 env o fun v => adraw P lo ops H0 nx0 rest (push env o.dst v) H nx K
        | false, false => bop P lo o env H nx fun v H nx => (lastB ops i = true ∨ Keeps nx0 H0 H) ∧ adraw P lo ops H0 nx0 rest (push env o.dst v) H nx K) →
          Region.wanted o (yielded ops a.tmps) = true → wpAnyS P ops Q (Sees lo H0) (fuel + 1) listed a w := fun hgo hw => by
        cases hp : pureOp o.op with
        | true =>
          rw [hp] at hgo
          obtain ⟨v, hqv, hk⟩ := hgo
          obtain ⟨hkn, hv⟩ := qv_peek hqv
          have hex := he.exec hkn (fun cs b => hsel i o cs b hoi)
          exact first v (fun _ => True) (freeQ (by rw [hp]; rfl)) (.inl ⟨hw, fun w' _ => by rw [hex]; exact peek_sound (sees_empty lo w') _ _ hv⟩) trivial (selfPure hp v) (fun _ _ _ _ _ _ _ _ => trivial) hk
        | false =>
          cases hro : readOp o.op with
          | true =>
            rw [hp, hro] at hgo
            obtain ⟨v, hqv, hk⟩ := hgo
            obtain ⟨hkn, hv⟩ := qv_peek hqv
            have hex := he.exec hkn (fun cs b => hsel i o cs b hoi)
            exact first v (Sees lo H0) (freeQ (by rw [hro]; simp)) (.inl ⟨hw, fun w' hS => by rw [hex]; exact peek_sound hS _ _ hv⟩) (seesNow hro) (selfRead hp v) (keepRead hro) hk
          | false =>
            rw [hp, hro] at hgo
            have hre := eff hp hro
            refine ⟨fun h => (by rw [hre] at h; cases h), fun j hj => ?_⟩
            rw [hre] at hj
            obtain rfl : j = i := by simpa using hj
            unfold opS
            rw [hoi]
            simp only [hp, Bool.false_eq_true, if_false]
            unfold wpOp
            simp only [hoi, hw, if_true]
            refine .inl (Oper.wp_mono (fun a' w' ⟨v, H', nx', ⟨g0, g1⟩, g2, g3, g4, g5, _⟩ => ?_) (aop_sound (bop_aop hgo) he hr))
            subst g2
            have hS : lastB ops j = true ∨ Sees lo H0 w' := g0.imp id fun hk => keeps_sees h0 hk g3
            refine ⟨hS, adraw_soundF h0 hd hsel hQp hfin rest _ fuel _ H' nx' _ w' g1 ho2 hc' hf' (he.push hdo v) g3 (hb.trans g4) (by omega) ?_⟩
            rcases hS with hl | hS
            · refine .inr fun k hk => ?_
              by_cases hkj : k = j
              · subst hkj
                unfold readAt at hk
                rw [hoi] at hk
                simp only at hk
                rw [hro] at hk
                cases hk
              · exact getD_set_true (lastB_waits hc hl hk hkj hready)
            · exact .inl hS
      cases hg : o.guard with
      | none =>
        rw [hg] at h
        exact carried h (by simp [Region.wanted, hg])
      | some gw =>
        obtain ⟨j, want⟩ := gw
        rw [hg] at h
        obtain ⟨b, hb1, h⟩ := h
        have hy := he.guard hb1 want
        by_cases hbw : wantV want b = true
        · rw [if_pos hbw] at h
          exact carried h (by simp only [Region.wanted, hg]; rw [hy, hbw])
        · rw [if_neg hbw] at h
          obtain ⟨hst, hk⟩ := h
          have hw : Region.wanted o (yielded ops a.tmps) = false := by simp only [Region.wanted, hg]; rw [hy]; simpa using hbw
          cases hp : pureOp o.op with
          | true => exact first undef (fun _ => True) (freeQ (by rw [hp]; rfl)) (.inr ⟨hw, rfl⟩) trivial (selfPure hp undef) (fun _ _ _ _ _ _ _ _ => trivial) hk
          | false =>
            cases hro : readOp o.op with
            | true => exact first undef (Sees lo H0) (freeQ (by rw [hro]; simp)) (.inr ⟨hw, rfl⟩) (seesNow hro) (selfRead hp undef) (keepRead hro) hk
            | false =>
              rw [hp, hro] at hst
              have hre := eff hp hro
              refine ⟨fun h => (by rw [hre] at h; cases h), fun j hj => ?_⟩
              rw [hre] at hj
              obtain rfl : j = i := by simpa using hj
              unfold opS
              rw [hoi]
              simp only [hp, Bool.false_eq_true, if_false]
              unfold wpOp
              simp only [hoi, hw, Bool.false_eq_true, if_false]
              have hS : lastB ops j = true ∨ Sees lo H0 w := by
                rcases hst with h | h | h | h
                · cases h
                · cases h
                · exact .inl h
                · exact .inr (keeps_sees h0 h hr)
              exact ⟨hS, adraw_soundF h0 hd hsel hQp hfin rest _ fuel _ H nx _ w hk ho2 hc' hf' (he.push hdo undef) hr hb hn (hread' w hs)⟩

theorem adrawT_sound {P : Program} {lo N : Nat} {ops : Array Oper} {Q : Exit → Act → World → Prop} {K : Env → AH → Nat → Prop} {w0 ws : World} {nxs nx0 : Nat} {H0 : AH} (h0 : Rel lo H0 nx0 ws)
    (hd : ∀ o ∈ ops, ∀ d, o.dst = some d → d < N) (hsel : ∀ (j : Nat) (o : Oper) cs b, ops[j]? = some o → o.op ≠ .select cs b)
    (hQ : ∀ a w, liftN lo N w0 nxs K a w → Q .normal a w) (hQp : ∀ c a w, ¬ Q (.panic c) a w) :
    ∀ (ord : Ord) (listed : Array Bool) (fuel : Nat) (env : Env) (H : AH) (nx : Nat) (a : Act) (w : World), adrawT P lo ops H0 nx0 ord env H nx K → ordOkT ops ord listed = true → Closed ops listed →
      ord.size ≤ fuel → EnvRel N env a → Rel lo H nx w → BelowD lo w0 w → nxs ≤ nx → (Sees lo H0 w ∨ ∀ k, readAt ops k = true → listed.getD k false = true) → wpAnyS P ops Q (Sees lo H0) fuel listed a w
  | .run l, listed, fuel, env, H, nx, a, w, h, ho, hc, hf, he, hr, hb, hn, hs => by
    simp only [adrawT] at h
    simp only [ordOkT] at ho
    exact adraw_soundF (n0 := 0) h0 hd hsel hQp (fun listed fuel env H nx a w g1 g2 _ _ g3 g4 g5 g6 _ => wpAnyS_done (by simpa using g2) (hQ a w ⟨env, H, nx, g1, g3, g4, g5, g6⟩) fuel) l listed fuel env H nx a w h ho hc (by simpa [Ord.size] using hf) he hr hb hn hs
  | .fork l i x j y, listed, fuel, env, H, nx, a, w, h, ho, hc, hf, he, hr, hb, hn, hs => by
    simp only [adrawT] at h
    simp only [ordOkT] at ho
    refine adraw_soundF (n0 := 1 + max x.size y.size) h0 hd hsel hQp (fun listed fuel env H nx a w g1 g2 g7 g8 g3 g4 g5 g6 g9 => ?_) l listed fuel env H nx a w h ho hc (by simpa [Ord.size] using hf) he hr hb hn hs
    obtain ⟨fuel, rfl⟩ : ∃ m, fuel = m + 1 := ⟨fuel - 1, by omega⟩
    simp only [Bool.and_eq_true, List.all_eq_true, Bool.or_eq_true, beq_iff_eq, Bool.not_eq_true'] at g2
    obtain ⟨⟨⟨⟨⟨q1, q2⟩, q3⟩, q4⟩, q5⟩, q6⟩ := g2
    have branch : ∀ (k : Nat) (z : Ord), k ∈ Region.ready .any ops listed → effB ops k = true → ordOkT ops z (listed.setIfInBounds k true) = true → z.size ≤ fuel →
        adraw P lo ops H0 nx0 [k] env H nx (fun env H nx => adrawT P lo ops H0 nx0 z env H nx K) →
        (∀ (listed : Array Bool) (fuel : Nat) (env : Env) (H : AH) (nx : Nat) (a : Act) (w : World), adrawT P lo ops H0 nx0 z env H nx K → ordOkT ops z listed = true → Closed ops listed → z.size ≤ fuel → EnvRel N env a → Rel lo H nx w → BelowD lo w0 w → nxs ≤ nx → (Sees lo H0 w ∨ ∀ k, readAt ops k = true → listed.getD k false = true) → wpAnyS P ops Q (Sees lo H0) fuel listed a w) →
        opS P ops Q (Sees lo H0) k (wpAnyS P ops Q (Sees lo H0) fuel (listed.setIfInBounds k true)) a w := fun k z hk hek hok hzf hq ih => by
      unfold effB at hek
      simp only [adraw] at hq
      cases hoi : ops[k]? with
      | none => rw [hoi] at hek; cases hek
      | some o =>
        rw [hoi] at hek hq
        simp only [Bool.and_eq_true, Bool.not_eq_true', Option.isNone_iff_eq_none] at hek
        obtain ⟨⟨hp, hro⟩, hg⟩ := hek
        simp only [hg, hp, hro] at hq
        have hmem : o ∈ ops := Array.mem_of_getElem? hoi
        have hdo := hd o hmem
        unfold opS
        rw [hoi]
        simp only [hp, Bool.false_eq_true, if_false]
        unfold wpOp
        simp only [hoi, show Region.wanted o (yielded ops a.tmps) = true by simp [Region.wanted, hg], if_true]
        refine .inl (Oper.wp_mono (fun a' w' ⟨v, H', nx', ⟨u0, u1⟩, u2, u3, u4, u5, _⟩ => ?_) (aop_sound (bop_aop hq) g3 g4))
        subst u2
        have hS : lastB ops k = true ∨ Sees lo H0 w' := u0.imp id fun hk => keeps_sees h0 hk u3
        refine ⟨hS, ih _ fuel _ H' nx' _ w' u1 hok (g7.next hk) hzf (g3.push hdo v) u3 (g5.trans u4) (by omega) ?_⟩
        rcases hS with hl | hS
        · refine .inr fun k' hk' => ?_
          by_cases hkj : k' = k
          · subst hkj
            unfold readAt at hk'
            rw [hoi] at hk'
            simp only at hk'
            rw [hro] at hk'
            cases hk'
          · exact getD_set_true (lastB_waits g7 hl hk' hkj hk)
        · exact .inl hS
    refine ⟨fun hh => ?_, fun k hk => ?_⟩
    · rw [hh] at q2; simp at q2
    · rcases q1 k hk with rfl | rfl
      · exact branch k x hk q3 q5 (by omega) g1.1 (adrawT_sound h0 hd hsel hQ hQp x)
      · exact branch k y hk q4 q6 (by omega) g1.2 (adrawT_sound h0 hd hsel hQ hQp y)

/-! ### Codes -/
theorem ordOk_count (ops : Array Oper) : ∀ (ord : List Nat) (listed : Array Bool), ordOk ops ord listed = true → ord.length ≤ (listed.toList.filter (! ·)).length
  | [], _, _ => Nat.zero_le _
  | i :: rest, listed, h => by
    simp only [ordOk, Bool.and_eq_true] at h
    have ih := ordOk_count ops rest _ h.2
    cases ho : ops[i]? with
    | none => rw [ho] at h; simp at h
    | some o =>
      rw [ho] at h
      simp only [Bool.and_eq_true] at h
      have hr : i ∈ Region.ready .any ops listed := by simpa using h.1.1
      have hun := (mem_ready.1 hr).1
      have hlt : i < listed.size := by
        rcases Nat.lt_or_ge i listed.size with h' | h'
        · exact h'
        · simp [Array.getElem?_eq_none h'] at hun
      have e : listed.toList = listed.toList.take i ++ false :: listed.toList.drop (i + 1) := by
        have hg : listed.toList[i]'(by simpa using hlt) = false := by simpa [hlt] using hun
        rw [← hg, List.getElem_cons_drop, List.take_append_drop]
      have e2 : (listed.setIfInBounds i true).toList = listed.toList.take i ++ true :: listed.toList.drop (i + 1) := by
        rw [Array.toList_setIfInBounds, List.set_eq_take_append_cons_drop, if_pos (by simpa using hlt)]
      rw [e2] at ih
      rw [e]
      simp at ih ⊢
      omega

theorem ordOk_length (ops : Array Oper) (ord : List Nat) (listed : Array Bool) (h : ordOk ops ord listed = true) (hs : listed.size ≤ ops.size) : ord.length ≤ ops.size :=
  Nat.le_trans (ordOk_count ops ord listed h) (Nat.le_trans (List.length_filter_le _ _) (by simpa using hs))

theorem Closed.start (ops : Array Oper) : Closed ops (Array.replicate ops.size false) := by
  intro k o _ hk
  simp only [Array.getD_eq_getD_getElem?, Array.getElem?_replicate] at hk
  split at hk <;> simp at hk

theorem liftQ_mono {lo N : Nat} {w0 w : World} {nx0 nx : Nat} {Q : Exit → Env → AH → Nat → Prop} (hb : BelowD lo w0 w) (hn : nx0 ≤ nx) {e : Exit} {a : Act} {w' : World} (h : liftQ lo N w nx Q e a w') : liftQ lo N w0 nx0 Q e a w' := by
  cases e <;> first | exact h | (obtain ⟨env, H, nx', h1, h2, h3, h4, h5⟩ := h; exact ⟨env, H, nx', h1, h2, h3, hb.trans h4, by omega⟩)

/-- A loop, its relation numbered by what it may still take. -/
theorem wp_loop_idx {P : Program} {Q : Exit → Act → World → Prop} {c : Code} (I : Nat → Act → World → Prop)
    (round : ∀ m a w, I m a w → c.wp P (Exit.then (fun a' w' => ∃ m', m' < m ∧ I m' a' w') Q) a w) {m : Nat} {a : Act} {w : World} (h₀ : I m a w) : (Code.loop c).wp P Q a w := by
  intro b k cs
  have key : ∀ m a w, I m a w → ∃ e a' w', Q e a' w' ∧ Arrives P (lone (b.at a (.code c :: .inLoop c :: k)) cs w) b k cs e a' w' := by
    intro m
    induction m using Nat.strongRecOn with
    | _ m ih =>
      intro a w hI
      obtain ⟨e, a₁, w₁, hq, harr⟩ := round m a w hI b (.inLoop c :: k) cs
      cases e with
      | normal =>
        obtain ⟨m', hlt, hI'⟩ := hq
        obtain ⟨e₂, a₂, w₂, hq₂, harr₂⟩ := ih m' hlt a₁ w₁ hI'
        exact ⟨e₂, a₂, w₂, hq₂, .of_steps (Steps.trans harr (.one step_inLoop)) harr₂⟩
      | _ => exact ⟨_, a₁, w₁, hq, .pass (x := .inLoop c) rfl (fun _ _ => .inl (by simp)) harr⟩
  obtain ⟨e, a', w', hq, harr⟩ := key m a w h₀
  exact ⟨e, a', w', hq, .of_steps (.one step_loop) harr⟩

theorem awp_sound {P : Program} {lo N : Nat} {L : Nat → List Nat} : ∀ (c : Code), Code.dstOk N c = true → ∀ (Q : Exit → Env → AH → Nat → Prop) (env : Env) (H : AH) (nx : Nat) (a : Act) (w : World), awp P lo L c Q env H nx → EnvRel N env a → Rel lo H nx w →
    c.wp P (liftQ lo N w nx Q) a w
  | .skip, _, Q, env, H, nx, a, w, h, he, hr => wp_skip ⟨env, H, nx, h, he, hr, BelowD.refl _ _, Nat.le_refl _⟩
  | .region id ops false, hd, Q, env, H, nx, a, w, h, he, hr => by
    have hd' : ∀ o ∈ ops, ∀ d, o.dst = some d → d < N := fun o ho d hod => by
      have := Array.all_eq_true_iff_forall_mem.1 hd o ho
      rw [hod] at this
      simpa using this
    refine wp_region ?_
    have := aops_sound (Q := liftQ lo N w nx Q) (w0 := w) (nx0 := nx) hd' (K := fun env H nx => Q .normal (prune (L id) env) H nx)
      (fun a' w' ⟨env', H', nx', g1, g2, g3, g4, g5⟩ => ⟨_, H', nx', g1, g2.sub (eg_prune env' (L id)), g3, g4, g5⟩) ops.toList 0 rfl env H nx a w h he hr (BelowD.refl _ _) (Nat.le_refl _)
    rwa [Array.length_toList, ← List.range_eq_range'] at this
  | .region id ops true, hd, Q, env, H, nx, a, w, h, he, hr => by
    have hd' : ∀ o ∈ ops, ∀ d, o.dst = some d → d < N := fun o ho d hod => by
      have := Array.all_eq_true_iff_forall_mem.1 hd o ho
      rw [hod] at this
      simpa using this
    obtain ⟨ord, H0, hsub, hok, h⟩ := h
    have hr0 := Rel.sub hsub hr
    simp only [Bool.and_eq_true] at hok
    obtain ⟨⟨⟨ho, hsize⟩, hsel⟩, hm⟩ := hok
    refine wp_region_any hm (wpAny_of_S (S := Sees lo H0) _ _ _ _ ?_)
    have hsize : ord.size ≤ ops.size := by simpa using hsize
    exact adrawT_sound (w0 := w) (nxs := nx) hr0 hd' (Region.noSelect_spec hsel) (K := fun env H nx => Q .normal (prune (L id) env) H nx)
      (fun a' w' ⟨env', H', nx', g1, g2, g3, g4, g5⟩ => ⟨_, H', nx', g1, g2.sub (eg_prune env' (L id)), g3, g4, g5⟩) (fun _ _ _ h => h)
      ord _ ops.size env H nx a w.drew h ho (Closed.start ops) hsize he hr.drew (BelowD.refl _ _).drew (Nat.le_refl _) (.inl hr0.drew.sees)
  | .seq x y, hd, Q, env, H, nx, a, w, h, he, hr => by
    simp only [Code.dstOk, Bool.and_eq_true] at hd
    refine wp_seq (wp_mono (awp_sound x hd.1 _ env H nx a w h he hr) fun e a' w' hq => ?_)
    cases e with
    | normal =>
      obtain ⟨env', H', nx', g1, g2, g3, g4, g5⟩ := hq
      exact wp_mono (awp_sound y hd.2 Q env' H' nx' a' w' g1 g2 g3) fun e a'' w'' hq' => liftQ_mono g4 g5 hq'
    | _ => exact hq
  | .cond c x y, hd, Q, env, H, nx, a, w, h, he, hr => by
    simp only [Code.dstOk, Bool.and_eq_true] at hd
    obtain ⟨t, hc, h⟩ := h
    have hev : a.eval c = .bool t := by
      rw [he.eval (by rw [hc]; rfl)]
      unfold aev
      rw [hc]; rfl
    cases t with
    | true => exact wp_cond_true hev (awp_sound x hd.1 Q env H nx a w (by simpa using h) he hr)
    | false => exact wp_cond_false hev (awp_sound y hd.2 Q env H nx a w (by simpa using h) he hr)
  | .block id c, hd, Q, env, H, nx, a, w, h, he, hr => by
    refine wp_block (wp_mono (awp_sound c hd _ env H nx a w h he hr) fun e a' w' hq => ?_)
    cases e with
    | exit id' =>
      obtain ⟨env', H', nx', g1, g⟩ := hq
      simp only [Exit.inBlock]
      simp only [blockQ] at g1
      split
      · rename_i hid
        rw [if_pos hid] at g1
        exact ⟨env', H', nx', g1, g⟩
      · rename_i hid
        rw [if_neg hid] at g1
        exact ⟨env', H', nx', g1, g⟩
    | _ => exact hq
  | .loop c, hd, Q, env, H, nx, a, w, h, he, hr => by
    obtain ⟨I, m, hI, round⟩ := h
    refine wp_loop_idx (fun m a' w' => ∃ env' H' nx', I m env' H' nx' ∧ EnvRel N env' a' ∧ Rel lo H' nx' w' ∧ BelowD lo w w' ∧ nx ≤ nx') (fun m a' w' hh => ?_) ⟨env, H, nx, hI, he, hr, BelowD.refl _ _, Nat.le_refl _⟩
    obtain ⟨env', H', nx', g1, g2, g3, g4, g5⟩ := hh
    refine wp_mono (awp_sound c hd _ env' H' nx' a' w' (round m env' H' nx' g1 g5) g2 g3) fun e a'' w'' hq => ?_
    cases e with
    | normal =>
      obtain ⟨env'', H'', nx'', ⟨m', hlt, hI'⟩, k2, k3, k4, k5⟩ := hq
      exact ⟨m', hlt, env'', H'', nx'', hI', k2, k3, g4.trans k4, by omega⟩
    | exit id => exact liftQ_mono g4 g5 (e := .exit id) hq
    | goto l => exact liftQ_mono g4 g5 (e := .goto l) hq
    | ret => exact liftQ_mono g4 g5 (e := .ret) hq
    | panic c => exact hq
    | outgrown => exact hq
  | .exit id, _, Q, env, H, nx, a, w, h, he, hr => wp_exit ⟨env, H, nx, h, he, hr, BelowD.refl _ _, Nat.le_refl _⟩
  | .ret, _, Q, env, H, nx, a, w, h, he, hr => wp_ret ⟨env, H, nx, h, he, hr, BelowD.refl _ _, Nat.le_refl _⟩
  | .rangeFunc .., _, _, _, _, _, _, _, h, _, _ => h.elim
  | .scope _, _, _, _, _, _, _, _, h, _, _ => h.elim
  | .label _, _, _, _, _, _, _, _, h, _, _ => h.elim
  | .goto _, _, _, _, _, _, _, _, h, _, _ => h.elim
  | .refuse _, _, _, _, _, _, _, _, h, _, _ => h.elim

end Go.Proofs.YtngnbafididkcaaGreat
end
section
namespace Go.Proofs.YtngnbafididkcaaGreat
open Go.RowKit

theorem list_mapM_congr {α β : Type} {f g : α → Sem β} : ∀ (l : List α), (∀ x ∈ l, f x = g x) → l.mapM f = l.mapM g
  | [], _ => rfl
  | x :: r, h => by
    simp only [List.mapM_cons]
    rw [h x (by simp), list_mapM_congr r (fun y hy => h y (by simp [hy]))]

theorem results_congr {fn : Func} {s t : Array Value} (h : ∀ r ∈ fn.results, match r with | .tmp d | .cell d _ => s.getD d undef = t.getD d undef) : results fn s = results fn t := by
  unfold results
  congr 1
  rw [Array.mapM_eq_mapM_toList, Array.mapM_eq_mapM_toList]
  congr 1
  refine list_mapM_congr _ fun r hr => ?_
  have := h r (by simpa using hr)
  cases r <;> (simp only at this ⊢; rw [this])

theorem envArr_get (N : Nat) (env : Env) (t : Nat) (ht : t < N) : (envArr N env).getD t undef = (eg env t).getD undef := by
  simp [envArr, ht]

theorem eg_argEnv : ∀ (l : List Value) (i t : Nat) (v : Value), eg (argEnv i l) t = some v → i ≤ t ∧ l[t - i]? = some v
  | [], _, _, _, h => by simp [argEnv, eg] at h
  | u :: r, i, t, v, h => by
    simp only [argEnv, eg] at h
    split at h
    · rename_i e
      subst e
      simp only [Option.some.injEq] at h
      subst h
      simp
    · rename_i e
      obtain ⟨h1, h2⟩ := eg_argEnv r (i + 1) t v h
      refine ⟨by omega, ?_⟩
      rw [show t - i = (t - (i + 1)) + 1 by omega]
      simpa using h2

/-- A function's contract from its body. -/
theorem acalls_of_awp {P : Program} {lo : Nat} (L : Nat → List Nat) {f : FuncId} {fn : Func} {c : Code} {args : Array Value} {H : AH} {nx : Nat} {R : Value → AH → Nat → Prop}
    (hf : P.funcs[f]? = some fn) (hb : fn.body = some c) (hd : (Code.dstOk fn.ntmps c && decide (args.size ≤ fn.ntmps) && fn.results.all fun | .tmp t | .cell t _ => decide (t < fn.ntmps)) = true)
    (h : awp P lo L c (retQ P fn R) (argEnv 0 args.toList) H nx) : ACalls P lo f args H nx R := by
  intro w hw
  simp only [Bool.and_eq_true, decide_eq_true_eq] at hd
  obtain ⟨⟨hd1, hd2⟩, hd3⟩ := hd
  refine calls_of_wp hf hb (wp_mono (awp_sound (N := fn.ntmps) c hd1 _ _ H nx _ w h ⟨?_, rfl, fun t v hv => ?_⟩ hw) fun e a w' hq => ?_)
  · simp; omega
  · obtain ⟨_, h2⟩ := eg_argEnv _ _ _ _ hv
    simp only [Nat.sub_zero, Array.getElem?_toList] at h2
    have hlt : t < args.size := (Array.getElem?_eq_some_iff.1 h2).1
    rw [Array.getD_eq_getD_getElem?, Array.getElem?_append_left hlt, h2]
    rfl
  · have done : ∀ (env : Env) (H' : AH) (nx' : Nat), (resKnown fn env = true ∧ ∃ v, peek P H' (results fn (envArr fn.ntmps env)) = some v ∧ R v H' nx') → EnvRel fn.ntmps env a → Rel lo H' nx' w' → BelowD lo w w' → nx ≤ nx' →
        a.defers = [] ∧ ∃ v, (results fn a.tmps).run P w' = .ok v w' ∧ ∃ u H'' nx'', Ending.returned v = .returned u ∧ R u H'' nx'' ∧ Rel lo H'' nx'' w' ∧ BelowD lo w w' ∧ nx ≤ nx'' := fun env H' nx' ⟨g1, v, g2, g3⟩ k1 k2 k3 k4 => by
      refine ⟨k1.defers, v, ?_, v, H', nx', rfl, g3, k2, k3, k4⟩
      have hc : results fn a.tmps = results fn (envArr fn.ntmps env) := results_congr fun r hr => by
        have h1 := Array.all_eq_true_iff_forall_mem.1 g1 r hr
        have h2 := Array.all_eq_true_iff_forall_mem.1 hd3 r hr
        cases r with
        | tmp t =>
          simp only [decide_eq_true_eq] at h1 h2 ⊢
          rw [envArr_get _ _ _ h2]
          obtain ⟨u, hu⟩ := Option.isSome_iff_exists.1 h1
          rw [k1.tmp t u hu, hu]; rfl
        | cell t ty =>
          simp only [decide_eq_true_eq] at h1 h2 ⊢
          rw [envArr_get _ _ _ h2]
          obtain ⟨u, hu⟩ := Option.isSome_iff_exists.1 h1
          rw [k1.tmp t u hu, hu]; rfl
      rw [hc]
      exact peek_sound k2.sees _ _ g2
    cases e with
    | normal => obtain ⟨env, H', nx', g, k1, k2, k3, k4⟩ := hq; exact done env H' nx' g k1 k2 k3 k4
    | ret => obtain ⟨env, H', nx', g, k1, k2, k3, k4⟩ := hq; exact done env H' nx' g k1 k2 k3 k4
    | exit id => obtain ⟨env, H', nx', g, _⟩ := hq; exact g.elim
    | goto l => obtain ⟨env, H', nx', g, _⟩ := hq; exact g.elim
    | panic c => exact hq.elim
    | outgrown => exact hq.elim

/-! ### The rules by which one goes through -/
theorem awp_seq {P : Program} {lo : Nat} {L : Nat → List Nat} {a b : Code} {Q : Exit → Env → AH → Nat → Prop} {env : Env} {H : AH} {nx : Nat} :
    awp P lo L (.seq a b) Q env H nx = awp P lo L a (thenQ (awp P lo L b Q) Q) env H nx := rfl

theorem thenQ_normal {k : Env → AH → Nat → Prop} {Q : Exit → Env → AH → Nat → Prop} {env : Env} {H : AH} {nx : Nat} : thenQ k Q .normal env H nx = k env H nx := rfl

end Go.Proofs.YtngnbafididkcaaGreat
end
