/- Marks and serials, in our own logic: nearer, best. -/
import Derived.Test.YtgafnliohmdmoaaC4
namespace Go.Proofs.Ytgafnliohmdmoaa
open Go.RowKit
set_option linter.unusedSimpArgs false

def newI (a b : Int) : Bool := decide (¬ a = b) && decide ((a - b) % 65536 < 32768)
theorem wrap_u16_sub {a b : Int} : IntKind.u16.wrap (a - b) = (a - b) % 65536 := by
  simp only [IntKind.wrap, IntKind.bits, IntKind.signed]
  simp
theorem snewer_c {lo : Nat} (a b : Int) (H : AH) (nx : Nat) : ACalls Try.prog lo 41 #[.int .u16 a, .int .u16 b] H nx (fun v H' nx' => v = .bool (newI a b) ∧ H' = H ∧ nx' = nx) := by
  refine acalls_of_awp L41 Try.func41 rfl (by kernel_rfl) ?_
  unfold newI
  by_cases h : a = b
  · simp (disch := omega) only [go_sem, ↓reduceIte , h]
    simp
  · simp (disch := omega) only [go_sem, ↓reduceIte , h, wrap_u16_sub]
    simp

def nearI (s m s' m' : Int) : Bool := newI s s' || (decide (s = s') && decide (m < m'))
theorem snearer_c {lo : Nat} (s m s' m' : Int) (H : AH) (nx : Nat) : ACalls Try.prog lo 34 #[.agg #[.int .u16 s, .int .u16 m], .agg #[.int .u16 s', .int .u16 m']] H nx (fun v H' nx' => v = .bool (nearI s m s' m') ∧ nx ≤ nx' ∧ Kp (fun _ => False) nx H H') := by
  refine ACalls.withLo fun hlo => ?_
  refine acalls_of_awp L34 Try.func34 rfl (by kernel_rfl) ?_
  simp (disch := omega) only [go_sem, ↓reduceIte ]
  intro p hp
  simp (disch := omega) only [go_sem, ↓reduceIte ]
  intro q hq
  simp (disch := omega) only [go_sem, ↓reduceIte ]
  refine (snewer_c s s' _ _).mono fun v H1 nx1 _ ⟨hv, hH, hx⟩ => ?_
  subst hv; subst hH; subst hx
  unfold nearI
  cases hn : newI s s' with
  | true =>
    simp (disch := omega) only [go_sem, ↓reduceIte ]
    refine ⟨?_, by omega, (by repeat first | exact Kp.refl _ _ _ | refine Kp.dropT ?_ (.inl (by omega)) | refine Kp.put ?_ (.inl (by omega)) | refine Kp.new ?_ (by omega) | refine Kp.put ?_ (.inr (by omega)) | refine Kp.newO ?_ (by omega) | refine Kp.setO ?_ (.inl (by omega)) | refine Kp.setO ?_ (.inr (by omega)) | refine Kp.trans0 ?_ (by assumption) (by omega) | refine Kp.transS ?_ (by assumption) (by omega) (fun b hb hT => by first | omega | (dsimp only at hT ⊢; omega) | (simp only at hT ⊢; omega))) ⟩
    simp
  | false =>
    by_cases h : s = s'
    · simp (disch := omega) only [go_sem, ↓reduceIte , h]
      refine ⟨?_, by omega, (by repeat first | exact Kp.refl _ _ _ | refine Kp.dropT ?_ (.inl (by omega)) | refine Kp.put ?_ (.inl (by omega)) | refine Kp.new ?_ (by omega) | refine Kp.put ?_ (.inr (by omega)) | refine Kp.newO ?_ (by omega) | refine Kp.setO ?_ (.inl (by omega)) | refine Kp.setO ?_ (.inr (by omega)) | refine Kp.trans0 ?_ (by assumption) (by omega) | refine Kp.transS ?_ (by assumption) (by omega) (fun b hb hT => by first | omega | (dsimp only at hT ⊢; omega) | (simp only at hT ⊢; omega))) ⟩
      simp
    · simp (disch := omega) only [go_sem, ↓reduceIte , h]
      refine ⟨?_, by omega, (by repeat first | exact Kp.refl _ _ _ | refine Kp.dropT ?_ (.inl (by omega)) | refine Kp.put ?_ (.inl (by omega)) | refine Kp.new ?_ (by omega) | refine Kp.put ?_ (.inr (by omega)) | refine Kp.newO ?_ (by omega) | refine Kp.setO ?_ (.inl (by omega)) | refine Kp.setO ?_ (.inr (by omega)) | refine Kp.trans0 ?_ (by assumption) (by omega) | refine Kp.transS ?_ (by assumption) (by omega) (fun b hb hT => by first | omega | (dsimp only at hT ⊢; omega) | (simp only at hT ⊢; omega))) ⟩
      simp

theorem sbest_c {lo : Nat} (s m s' m' : Int) (H : AH) (nx : Nat) : ACalls Try.prog lo 27 #[.agg #[.int .u16 s, .int .u16 m], .agg #[.int .u16 s', .int .u16 m']] H nx (fun v H' nx' => v = (if nearI s' m' s m = true then .agg #[.int .u16 s', .int .u16 m'] else .agg #[.int .u16 s, .int .u16 m]) ∧ nx ≤ nx' ∧ Kp (fun _ => False) nx H H') := by
  refine ACalls.withLo fun hlo => ?_
  refine acalls_of_awp L27 Try.func27 rfl (by kernel_rfl) ?_
  simp (disch := omega) only [go_sem, ↓reduceIte ]
  intro p hp
  simp (disch := omega) only [go_sem, ↓reduceIte ]
  intro q hq
  simp (disch := omega) only [go_sem, ↓reduceIte ]
  intro r hr
  simp (disch := omega) only [go_sem, ↓reduceIte ]
  refine (snearer_c s' m' s m _ _).mono fun v H1 nx1 _ ⟨hv, hx1, hk1⟩ => ?_
  subst hv
  have hc1 := hk1.cell0
  cases hn : nearI s' m' s m with
  | true =>
    simp (disch := omega) only [go_sem, ↓reduceIte , hc1]
    exact ⟨by omega, (by repeat first | exact Kp.refl _ _ _ | refine Kp.dropT ?_ (.inl (by omega)) | refine Kp.put ?_ (.inl (by omega)) | refine Kp.new ?_ (by omega) | refine Kp.put ?_ (.inr (by omega)) | refine Kp.newO ?_ (by omega) | refine Kp.setO ?_ (.inl (by omega)) | refine Kp.setO ?_ (.inr (by omega)) | refine Kp.trans0 ?_ (by assumption) (by omega) | refine Kp.transS ?_ (by assumption) (by omega) (fun b hb hT => by first | omega | (dsimp only at hT ⊢; omega) | (simp only at hT ⊢; omega))) ⟩
  | false =>
    simp (disch := omega) only [go_sem, ↓reduceIte , hc1]
    exact ⟨by omega, (by repeat first | exact Kp.refl _ _ _ | refine Kp.dropT ?_ (.inl (by omega)) | refine Kp.put ?_ (.inl (by omega)) | refine Kp.new ?_ (by omega) | refine Kp.put ?_ (.inr (by omega)) | refine Kp.newO ?_ (by omega) | refine Kp.setO ?_ (.inl (by omega)) | refine Kp.setO ?_ (.inr (by omega)) | refine Kp.trans0 ?_ (by assumption) (by omega) | refine Kp.transS ?_ (by assumption) (by omega) (fun b hb hT => by first | omega | (dsimp only at hT ⊢; omega) | (simp only at hT ⊢; omega))) ⟩

/-- The document's own. -/
theorem newer01_c {lo : Nat} (a b : Int) (a0 : 0 ≤ a) (a1 : a ≤ 65535) (b0 : 0 ≤ b) (b1 : b ≤ 65535) (H : AH) (nx : Nat) : ACalls Try.prog lo 32 #[.int .u16 a, .int .u16 b] H nx (fun v H' nx' => v = .bool (newI a b) ∧ H' = H ∧ nx' = nx) := by
  refine acalls_of_awp L32 Try.func32 rfl (by kernel_rfl) ?_
  unfold newI
  by_cases h : 1 ≤ (a - b + 65536) % 65536
  · simp (disch := omega) only [go_sem, ↓reduceIte , h]
    rw [decide_eq_decide]
    omega
  · simp (disch := omega) only [go_sem, ↓reduceIte , h]

theorem nearer01_c {lo : Nat} (s m s' m' : Int) (a0 : 0 ≤ s) (a1 : s ≤ 65535) (b0 : 0 ≤ s') (b1 : s' ≤ 65535) (H : AH) (nx : Nat) : ACalls Try.prog lo 24 #[.agg #[.int .u16 s, .int .u16 m], .agg #[.int .u16 s', .int .u16 m']] H nx (fun v H' nx' => v = .bool (nearI s m s' m') ∧ nx ≤ nx' ∧ Kp (fun _ => False) nx H H') := by
  refine ACalls.withLo fun hlo => ?_
  refine acalls_of_awp L24 Try.func24 rfl (by kernel_rfl) ?_
  simp (disch := omega) only [go_sem, ↓reduceIte ]
  intro p hp
  simp (disch := omega) only [go_sem, ↓reduceIte ]
  intro q hq
  by_cases h : s = s'
  · simp (disch := omega) only [go_sem, ↓reduceIte , h]
    refine ⟨?_, by omega, (by repeat first | exact Kp.refl _ _ _ | refine Kp.dropT ?_ (.inl (by omega)) | refine Kp.put ?_ (.inl (by omega)) | refine Kp.new ?_ (by omega) | refine Kp.put ?_ (.inr (by omega)) | refine Kp.newO ?_ (by omega) | refine Kp.setO ?_ (.inl (by omega)) | refine Kp.setO ?_ (.inr (by omega)) | refine Kp.trans0 ?_ (by assumption) (by omega) | refine Kp.transS ?_ (by assumption) (by omega) (fun b hb hT => by first | omega | (dsimp only at hT ⊢; omega) | (simp only at hT ⊢; omega))) ⟩
    simp [nearI, newI]
  · simp (disch := omega) only [go_sem, ↓reduceIte , h]
    refine (newer01_c s s' a0 a1 b0 b1 _ _).mono fun v H1 nx1 _ ⟨hv, hH, hx⟩ => ?_
    subst hv; subst hH; subst hx
    simp (disch := omega) only [go_sem, ↓reduceIte ]
    refine ⟨?_, by omega, (by repeat first | exact Kp.refl _ _ _ | refine Kp.dropT ?_ (.inl (by omega)) | refine Kp.put ?_ (.inl (by omega)) | refine Kp.new ?_ (by omega) | refine Kp.put ?_ (.inr (by omega)) | refine Kp.newO ?_ (by omega) | refine Kp.setO ?_ (.inl (by omega)) | refine Kp.setO ?_ (.inr (by omega)) | refine Kp.trans0 ?_ (by assumption) (by omega) | refine Kp.transS ?_ (by assumption) (by omega) (fun b hb hT => by first | omega | (dsimp only at hT ⊢; omega) | (simp only at hT ⊢; omega))) ⟩
    simp [nearI, h]
end Go.Proofs.Ytgafnliohmdmoaa
