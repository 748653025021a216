/- Ideal's law IdealFolds, in our own logic. -/
import Derived.Test.YtcdnjkogkibegaaG6
namespace Go.Proofs.Ytcdnjkogkibegaa
open Go.RowKit
set_option linter.unusedSimpArgs false

theorem folds_much {lo : Nat} {H : AH} {nx : Nat} {s f : Value} {acts : List Act5} {folds : List Int} {owna ownf : Nat} (hs : SlA nx H 5 s acts.length (actCells acts) owna) (hf : SlA nx H 1 f folds.length (folds.map (Value.int .i64)) ownf) (h : 30 < acts.length ∨ 10 < folds.length) :
    ACalls Try.prog lo 5 #[s, f] H nx (fun v H' nx' => v = .bool true ∧ nx ≤ nx' ∧ Kp (fun _ => False) nx H H') := by
  refine ACalls.withLo fun hlo => ?_
  refine acalls_of_awp L5 Try.func5 rfl (by kernel_rfl) ?_
  obtain ⟨sa, sc, rfl⟩ := hs.form
  obtain ⟨fa, fc, rfl⟩ := hf.form
  simp (disch := omega) only [go_sem, ↓reduceIte ]
  refine awake20_c.mono fun v H1 nx1 _ ⟨hv, hx1, hk1⟩ => ?_
  subst hv
  by_cases h1 : 30 < acts.length
  · simp (disch := omega) only [go_sem, ↓reduceIte ]
    refine awake20_c.mono fun v H2 nx2 _ ⟨hv, hx2, hk2⟩ => ?_
    subst hv
    simp (disch := omega) only [go_sem, ↓reduceIte ]
    exact ⟨by omega, (by repeat first | exact Kp.refl _ _ _ | refine Kp.dropT ?_ (.inl (by omega)) | refine Kp.put ?_ (.inl (by omega)) | refine Kp.new ?_ (by omega) | refine Kp.put ?_ (.inr (by omega)) | refine Kp.trans0 ?_ (by assumption) (by omega) | refine Kp.transS ?_ (by assumption) (by omega) (fun b hb hT => by first | omega | (dsimp only at hT ⊢; omega) | (simp only at hT ⊢; omega))) ⟩
  · simp (disch := omega) only [go_sem, ↓reduceIte ]
    refine awake20_c.mono fun v H2 nx2 _ ⟨hv, hx2, hk2⟩ => ?_
    subst hv
    simp (disch := omega) only [go_sem, ↓reduceIte ]
    exact ⟨by omega, (by repeat first | exact Kp.refl _ _ _ | refine Kp.dropT ?_ (.inl (by omega)) | refine Kp.put ?_ (.inl (by omega)) | refine Kp.new ?_ (by omega) | refine Kp.put ?_ (.inr (by omega)) | refine Kp.trans0 ?_ (by assumption) (by omega) | refine Kp.transS ?_ (by assumption) (by omega) (fun b hb hT => by first | omega | (dsimp only at hT ⊢; omega) | (simp only at hT ⊢; omega))) ⟩

structure FoldI (lo nx0 : Nat) (H0 : AH) (f : Value) (nf : Nat) (a : Value) (cs : List Chg) (own p : Nat) (m : Nat) (env : Env) (H : AH) (nx : Nat) (j : Nat) (cut safe : Int) : Prop where
  hm : m = nf - j
  hj : j ≤ nf
  henv : env = [(1, f), (5, a), (6, .pointer (some ⟨p, 0, none⟩)), (7, .int .i64 cut), (8, .int .i64 safe), (9, .int .i64 j)]
  hx : nx0 ≤ nx
  hk : Kp (fun _ => False) nx0 H0 H
  hI : IdealA lo nx H p cs own safe cut

set_option maxHeartbeats 4000000 in
theorem folds_c {lo : Nat} {H : AH} {nx : Nat} {s f : Value} {acts : List Act5} {folds : List Int} {owna ownf : Nat} (hs : SlA nx H 5 s acts.length (actCells acts) owna) (hok : ∀ x ∈ acts, Act5Ok x) (hf : SlA nx H 1 f folds.length (folds.map (Value.int .i64)) ownf) (h1 : acts.length ≤ 30) (h2 : folds.length ≤ 10) :
    ACalls Try.prog lo 5 #[s, f] H nx (fun v H' nx' => v = .bool true ∧ nx ≤ nx' ∧ Kp (fun _ => False) nx H H') := by
  refine ACalls.withLo fun hlo => ?_
  refine acalls_of_awp L5 Try.func5 rfl (by kernel_rfl) ?_
  obtain ⟨sa, sc, rfl⟩ := hs.form
  obtain ⟨fa, fc, rfl⟩ := hf.form
  have hle := hs.le
  have hlef := hf.le
  simp (disch := omega) only [go_sem, ↓reduceIte ]
  refine awake20_c.mono fun v H1 nx1 _ ⟨hv, hx1, hk1⟩ => ?_
  subst hv
  simp (disch := omega) only [go_sem, ↓reduceIte ]
  refine (history_c (hs.kp hk1 hx1 (by simp)) hok).mono fun v H2 nx2 _ ⟨cs, own, t, hs2, hh, h60, ho2, hx2, hk2⟩ => ?_
  obtain ⟨a2, c2, rfl⟩ := hs2.form
  simp (disch := omega) only [go_sem, ↓reduceIte ]
  refine (of20_c hs2 hh (by omega)).mono fun v H3 nx3 _ ⟨p, own3, hv, hp, hI3, ho3, hx3, hk3⟩ => ?_
  subst hv
  simp (disch := omega) only [go_sem, ↓reduceIte ]
  refine awp_loop (fun m env H4 nx4 => ∃ j cut safe, FoldI lo nx H (.slice fa folds.length fc) folds.length (.slice a2 cs.length c2) cs own3 p m env H4 nx4 j cut safe) folds.length ⟨0, 0, 0, ⟨rfl, by omega, rfl, by omega, (by repeat first | exact Kp.refl _ _ _ | refine Kp.dropT ?_ (.inl (by omega)) | refine Kp.put ?_ (.inl (by omega)) | refine Kp.new ?_ (by omega) | refine Kp.put ?_ (.inr (by omega)) | refine Kp.trans0 ?_ (by assumption) (by omega) | refine Kp.transS ?_ (by assumption) (by omega) (fun b hb hT => by first | omega | (dsimp only at hT ⊢; omega) | (simp only at hT ⊢; omega))) , hI3⟩⟩ (fun m env H4 nx4 ⟨j, cut, safe, hJ⟩ hn => ?_)
  obtain ⟨hm, hj, henv, hx4, hk4, hI4⟩ := hJ
  subst henv
  by_cases hjl : j < folds.length
  · obtain ⟨x, hx0⟩ : ∃ x, folds[j]? = some x := ⟨_, List.getElem?_eq_getElem hjl⟩
    obtain ⟨g, off, cap, hv, hg⟩ := hf.open (by omega)
    cases hv
    have c0 := (hf.kp hk4 (nx' := nx4) (by omega) (by simp)).cells.1 j (.int .i64 x) (by simp [hx0])
    simp (disch := omega) only [go_sem, ↓reduceIte , c0]
    generalize x.tmod 40 = n
    refine (ifold_c hI4 n).mono fun v H5 nx5 _ ⟨hx5, hk5, hR⟩ => ?_
    rcases hR with ⟨r1, r2, hv, hI5⟩ | ⟨r, hv, hI5⟩
    · subst hv
      simp (disch := omega) only [go_sem, ↓reduceIte ]
      refine (icut_c hI5).mono fun v H6 nx6 _ ⟨hv, hH6, hx6⟩ => ?_
      subst hv; subst hH6; subst hx6
      simp (disch := omega) only [go_sem, ↓reduceIte ]
      refine (isafe_c hI5).mono fun v H6 nx6 _ ⟨hv, hH6, hx6⟩ => ?_
      subst hv; subst hH6; subst hx6
      simp (disch := omega) only [go_sem, ↓reduceIte ]
      exact ⟨folds.length - (j + 1), by omega, j + 1, n, cs.length, ⟨rfl, by omega, rfl, by omega, (by repeat first | exact Kp.refl _ _ _ | refine Kp.dropT ?_ (.inl (by omega)) | refine Kp.put ?_ (.inl (by omega)) | refine Kp.new ?_ (by omega) | refine Kp.put ?_ (.inr (by omega)) | refine Kp.trans0 ?_ (by assumption) (by omega) | refine Kp.transS ?_ (by assumption) (by omega) (fun b hb hT => by first | omega | (dsimp only at hT ⊢; omega) | (simp only at hT ⊢; omega))) , hI5⟩⟩
    · subst hv
      by_cases hcn : cut ≤ n
      · simp (disch := omega) only [go_sem, ↓reduceIte ]
        refine (icut_c hI5).mono fun v H6 nx6 _ ⟨hv, hH6, hx6⟩ => ?_
        subst hv; subst hH6; subst hx6
        simp (disch := omega) only [go_sem, ↓reduceIte ]
        refine (isafe_c hI5).mono fun v H6 nx6 _ ⟨hv, hH6, hx6⟩ => ?_
        subst hv; subst hH6; subst hx6
        simp (disch := omega) only [go_sem, ↓reduceIte ]
        exact ⟨folds.length - (j + 1), by omega, j + 1, cut, safe, ⟨rfl, by omega, rfl, by omega, (by repeat first | exact Kp.refl _ _ _ | refine Kp.dropT ?_ (.inl (by omega)) | refine Kp.put ?_ (.inl (by omega)) | refine Kp.new ?_ (by omega) | refine Kp.put ?_ (.inr (by omega)) | refine Kp.trans0 ?_ (by assumption) (by omega) | refine Kp.transS ?_ (by assumption) (by omega) (fun b hb hT => by first | omega | (dsimp only at hT ⊢; omega) | (simp only at hT ⊢; omega))) , hI5⟩⟩
      · simp (disch := omega) only [go_sem, ↓reduceIte ]
        refine (icut_c hI5).mono fun v H6 nx6 _ ⟨hv, hH6, hx6⟩ => ?_
        subst hv; subst hH6; subst hx6
        simp (disch := omega) only [go_sem, ↓reduceIte ]
        refine (isafe_c hI5).mono fun v H6 nx6 _ ⟨hv, hH6, hx6⟩ => ?_
        subst hv; subst hH6; subst hx6
        simp (disch := omega) only [go_sem, ↓reduceIte ]
        exact ⟨folds.length - (j + 1), by omega, j + 1, cut, safe, ⟨rfl, by omega, rfl, by omega, (by repeat first | exact Kp.refl _ _ _ | refine Kp.dropT ?_ (.inl (by omega)) | refine Kp.put ?_ (.inl (by omega)) | refine Kp.new ?_ (by omega) | refine Kp.put ?_ (.inr (by omega)) | refine Kp.trans0 ?_ (by assumption) (by omega) | refine Kp.transS ?_ (by assumption) (by omega) (fun b hb hT => by first | omega | (dsimp only at hT ⊢; omega) | (simp only at hT ⊢; omega))) , hI5⟩⟩
  · simp (disch := omega) only [go_sem, ↓reduceIte ]
    exact ⟨by omega, (by repeat first | exact Kp.refl _ _ _ | refine Kp.dropT ?_ (.inl (by omega)) | refine Kp.put ?_ (.inl (by omega)) | refine Kp.new ?_ (by omega) | refine Kp.put ?_ (.inr (by omega)) | refine Kp.trans0 ?_ (by assumption) (by omega) | refine Kp.transS ?_ (by assumption) (by omega) (fun b hb hT => by first | omega | (dsimp only at hT ⊢; omega) | (simp only at hT ⊢; omega))) ⟩
end Go.Proofs.Ytcdnjkogkibegaa
