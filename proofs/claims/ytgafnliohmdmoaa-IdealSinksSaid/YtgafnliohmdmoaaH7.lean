/- IdealSinks, whole. -/
import Derived.Test.YtgafnliohmdmoaaH6
namespace Go.Proofs.Ytgafnliohmdmoaa
open Go.RowKit Go.Sort
set_option linter.unusedSimpArgs false

set_option maxHeartbeats 8000000 in
set_option maxRecDepth 20000 in
theorem idealSinks_c {lo : Nat} {H : AH} {nx : Nat} {s va : Value} {acts : List Act5} {xs : List Int} {ownl owna : Nat} (hs : SlA nx H 5 s acts.length (actCells acts) ownl) (hok : ∀ x ∈ acts, Act5Ok x) (hva : SlA nx H 1 va xs.length (xs.map fun b => Value.int .u8 b) owna) (hb8 : ∀ x ∈ xs, 0 ≤ x ∧ x < 256) :
    ACalls Try.prog lo 3 #[s, va] H nx (fun v H' nx' => v = .bool true ∧ nx ≤ nx' ∧ Kp (fun _ => False) nx H H') := by
  refine ACalls.withLo fun hlo => ?_
  refine acalls_of_awp L3 Try.func3 rfl (by kernel_rfl) ?_
  obtain ⟨sa, sc, rfl⟩ := hs.form
  obtain ⟨aa, ac, hvav⟩ := hva.form
  have hal := hva.le
  rw [hvav]
  by_cases h1 : 30 < acts.length
  · simp (disch := omega) only [go_sem, ↓reduceIte ]
    refine awake20_c.mono fun v H1 nx1 _ ⟨hv, hx1, hk1⟩ => ?_
    subst hv
    simp (disch := omega) only [go_sem, ↓reduceIte ]
    refine awake20_c.mono fun v H2 nx2 _ ⟨hv, hx2, hk2⟩ => ?_
    subst hv
    simp (disch := omega) only [go_sem, ↓reduceIte ]
    exact ⟨by omega, (by repeat first | exact Kp.refl _ _ _ | refine Kp.dropT ?_ (.inl (by omega)) | refine Kp.put ?_ (.inl (by omega)) | refine Kp.new ?_ (by omega) | refine Kp.put ?_ (.inr (by omega)) | refine Kp.newO ?_ (by omega) | refine Kp.setO ?_ (.inl (by omega)) | refine Kp.setO ?_ (.inr (by omega)) | refine Kp.trans0 ?_ (by assumption) (by omega) | refine Kp.transS ?_ (by assumption) (by omega) (fun b hb hT => by first | omega | (dsimp only at hT ⊢; omega) | (simp only at hT ⊢; omega))) ⟩
  by_cases h2 : 30 < xs.length
  · simp (disch := omega) only [go_sem, ↓reduceIte ]
    refine awake20_c.mono fun v H1 nx1 _ ⟨hv, hx1, hk1⟩ => ?_
    subst hv
    simp (disch := omega) only [go_sem, ↓reduceIte , decide_false]
    refine awake20_c.mono fun v H2 nx2 _ ⟨hv, hx2, hk2⟩ => ?_
    subst hv
    simp (disch := omega) only [go_sem, ↓reduceIte ]
    exact ⟨by omega, (by repeat first | exact Kp.refl _ _ _ | refine Kp.dropT ?_ (.inl (by omega)) | refine Kp.put ?_ (.inl (by omega)) | refine Kp.new ?_ (by omega) | refine Kp.put ?_ (.inr (by omega)) | refine Kp.newO ?_ (by omega) | refine Kp.setO ?_ (.inl (by omega)) | refine Kp.setO ?_ (.inr (by omega)) | refine Kp.trans0 ?_ (by assumption) (by omega) | refine Kp.transS ?_ (by assumption) (by omega) (fun b hb hT => by first | omega | (dsimp only at hT ⊢; omega) | (simp only at hT ⊢; omega))) ⟩
  simp (disch := omega) only [go_sem, ↓reduceIte ]
  refine awake20_c.mono fun v H1 nx1 _ ⟨hv, hx1, hk1⟩ => ?_
  subst hv
  simp (disch := omega) only [go_sem, ↓reduceIte , decide_false]
  refine (history_c (hs.kp hk1 hx1 (by simp)) hok).mono fun v H2 nx2 _ ⟨cs, own, t, hs2, hh, h60, ho2, hx2, hk2⟩ => ?_
  obtain ⟨a2, c2, rfl⟩ := hs2.form
  simp (disch := omega) only [go_sem, ↓reduceIte ]
  refine (of20_c hs2 hh (by omega)).mono fun v H3 nx3 _ ⟨p, own3, hv, hp, I, ho3, hx3, hk3⟩ => ?_
  subst hv
  have k12 := hk1.trans (U := fun _ => False) hk2 (by omega) (fun _ _ e => e) (fun _ _ e => e)
  have k13 := k12.trans (U := fun _ => False) hk3 (by omega) (fun _ _ e => e) (fun _ _ e => e)
  have hva3 := hva.kp k13 (by omega : nx ≤ nx3) (by simp)
  have hI : SkI lo nx3 H3 va xs.length p cs own3 xs.length [(1, va), (6, .pointer (some ⟨p, 0, none⟩)), (7, .int .u64 (horF cs 0)), (8, .int .i64 (0 : Nat)), (9, .int .i64 (0 : Nat))] H3 nx3 0 0 0 :=
    ⟨by omega, by omega, rfl, Nat.le_refl _, Kp.refl _ _ _, I, by omega, by omega⟩
  simp (disch := omega) only [go_sem, ↓reduceIte ]
  rw [hvav] at hva3 hI
  refine sk_loop hh h60 hva3 (by omega) hb8 (by omega) hI fun env H4 nx4 c safe hI4 => ?_
  obtain ⟨hm, hi, henv, hx4, hk4, I4, hc4, hs4⟩ := hI4
  subst henv
  simp only [List.cons_append, List.nil_append]
  simp (disch := omega) only [go_sem, ↓reduceIte ]
  exact ⟨by omega, k13.trans (U := fun _ => False) hk4 (by omega) (fun _ _ e => e) (fun b hb e => by omega)⟩
end Go.Proofs.Ytgafnliohmdmoaa
