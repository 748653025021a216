/- OUR OWN LOGIC OVER THE KIT'S. 6: a function's contract from its body; the rules by which a body is gone through. Nothing of the program stands here. -/
import Derived.Test.YtgafnliohmdmoaaL5
namespace Go.Proofs.Ytgafnliohmdmoaa
open Go.RowKit

theorem list_mapM_congr {α β : Type} {f g : α → Sem β} : ∀ (l : List α), (∀ x ∈ l, f x = g x) → l.mapM f = l.mapM g
  | [], _ => rfl
  | x :: r, h => by
    simp only [List.mapM_cons]
    rw [h x (by simp), list_mapM_congr r (fun y hy => h y (by simp [hy]))]

theorem results_congr {fn : Func} {s t : Array Value} (h : ∀ r ∈ fn.results, match r with | .tmp d | .cell d _ => s.getD d undef = t.getD d undef) : results fn s = results fn t := by
  unfold results
  congr 1
  rw [Array.mapM_eq_mapM_toList, Array.mapM_eq_mapM_toList]
  congr 1
  refine list_mapM_congr _ fun r hr => ?_
  have := h r (by simpa using hr)
  cases r <;> (simp only at this ⊢; rw [this])

theorem envArr_get (N : Nat) (env : Env) (t : Nat) (ht : t < N) : (envArr N env).getD t undef = (eg env t).getD undef := by
  simp [envArr, ht]

theorem eg_argEnv : ∀ (l : List Value) (i t : Nat) (v : Value), eg (argEnv i l) t = some v → i ≤ t ∧ l[t - i]? = some v
  | [], _, _, _, h => by simp [argEnv, eg] at h
  | u :: r, i, t, v, h => by
    simp only [argEnv, eg] at h
    split at h
    · rename_i e
      subst e
      simp only [Option.some.injEq] at h
      subst h
      simp
    · rename_i e
      obtain ⟨h1, h2⟩ := eg_argEnv r (i + 1) t v h
      refine ⟨by omega, ?_⟩
      rw [show t - i = (t - (i + 1)) + 1 by omega]
      simpa using h2

/-- A function's contract from its body. -/
theorem acalls_of_awp {P : Program} {lo : Nat} (L : Nat → List Nat) {f : FuncId} {fn : Func} {c : Code} {args : Array Value} {H : AH} {nx : Nat} {R : Value → AH → Nat → Prop}
    (hf : P.funcs[f]? = some fn) (hb : fn.body = some c) (hd : (Code.dstOk fn.ntmps c && decide (args.size ≤ fn.ntmps) && fn.results.all fun | .tmp t | .cell t _ => decide (t < fn.ntmps)) = true)
    (h : awp P lo L c (retQ P fn R) (argEnv 0 args.toList) H nx) : ACalls P lo f args H nx R := by
  intro w hw
  simp only [Bool.and_eq_true, decide_eq_true_eq] at hd
  obtain ⟨⟨hd1, hd2⟩, hd3⟩ := hd
  refine calls_of_wp hf hb (wp_mono (awp_sound (N := fn.ntmps) c hd1 _ _ H nx _ w h ⟨?_, rfl, fun t v hv => ?_⟩ hw) fun e a w' hq => ?_)
  · simp; omega
  · obtain ⟨_, h2⟩ := eg_argEnv _ _ _ _ hv
    simp only [Nat.sub_zero, Array.getElem?_toList] at h2
    have hlt : t < args.size := (Array.getElem?_eq_some_iff.1 h2).1
    rw [Array.getD_eq_getD_getElem?, Array.getElem?_append_left hlt, h2]
    rfl
  · have done : ∀ (env : Env) (H' : AH) (nx' : Nat), (resKnown fn env = true ∧ ∃ v, peek P H' (results fn (envArr fn.ntmps env)) = some v ∧ R v H' nx') → EnvRel fn.ntmps env a → Rel lo H' nx' w' → BelowD lo w w' → nx ≤ nx' →
        a.defers = [] ∧ ∃ v, (results fn a.tmps).run P w' = .ok v w' ∧ ∃ u H'' nx'', Ending.returned v = .returned u ∧ R u H'' nx'' ∧ Rel lo H'' nx'' w' ∧ BelowD lo w w' ∧ nx ≤ nx'' := fun env H' nx' ⟨g1, v, g2, g3⟩ k1 k2 k3 k4 => by
      refine ⟨k1.defers, v, ?_, v, H', nx', rfl, g3, k2, k3, k4⟩
      have hc : results fn a.tmps = results fn (envArr fn.ntmps env) := results_congr fun r hr => by
        have h1 := Array.all_eq_true_iff_forall_mem.1 g1 r hr
        have h2 := Array.all_eq_true_iff_forall_mem.1 hd3 r hr
        cases r with
        | tmp t =>
          simp only [decide_eq_true_eq] at h1 h2 ⊢
          rw [envArr_get _ _ _ h2]
          obtain ⟨u, hu⟩ := Option.isSome_iff_exists.1 h1
          rw [k1.tmp t u hu, hu]; rfl
        | cell t ty =>
          simp only [decide_eq_true_eq] at h1 h2 ⊢
          rw [envArr_get _ _ _ h2]
          obtain ⟨u, hu⟩ := Option.isSome_iff_exists.1 h1
          rw [k1.tmp t u hu, hu]; rfl
      rw [hc]
      exact peek_sound k2.sees _ _ g2
    cases e with
    | normal => obtain ⟨env, H', nx', g, k1, k2, k3, k4⟩ := hq; exact done env H' nx' g k1 k2 k3 k4
    | ret => obtain ⟨env, H', nx', g, k1, k2, k3, k4⟩ := hq; exact done env H' nx' g k1 k2 k3 k4
    | exit id => obtain ⟨env, H', nx', g, _⟩ := hq; exact g.elim
    | goto l => obtain ⟨env, H', nx', g, _⟩ := hq; exact g.elim
    | panic c => exact hq.elim
    | outgrown => exact hq.elim

/-! ### The rules by which one goes through -/
theorem awp_seq {P : Program} {lo : Nat} {L : Nat → List Nat} {a b : Code} {Q : Exit → Env → AH → Nat → Prop} {env : Env} {H : AH} {nx : Nat} :
    awp P lo L (.seq a b) Q env H nx = awp P lo L a (thenQ (awp P lo L b Q) Q) env H nx := rfl

theorem thenQ_normal {k : Env → AH → Nat → Prop} {Q : Exit → Env → AH → Nat → Prop} {env : Env} {H : AH} {nx : Nat} : thenQ k Q .normal env H nx = k env H nx := rfl

end Go.Proofs.Ytgafnliohmdmoaa
