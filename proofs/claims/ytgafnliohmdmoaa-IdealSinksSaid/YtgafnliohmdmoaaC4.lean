/- Comparisons of prefixes. -/
import Derived.Test.YtgafnliohmdmoaaFacts
import Derived.Test.YtgafnliohmdmoaaL17
namespace Go.Proofs.Ytgafnliohmdmoaa
open Go.RowKit
set_option linter.unusedSimpArgs false

theorem nan32_c {lo : Nat} (a : Int) (H : AH) (nx : Nat) : ACalls Try.prog lo 52 #[.int .u32 a] H nx (fun v H' nx' => v = .bool false ∧ H' = H ∧ nx' = nx) := by
  refine acalls_of_awp L52 Try.func52 rfl (by kernel_rfl) ?_
  simp (disch := omega) only [go_sem, ↓reduceIte ]
theorem nan8_c {lo : Nat} (a : Int) (H : AH) (nx : Nat) : ACalls Try.prog lo 53 #[.int .u8 a] H nx (fun v H' nx' => v = .bool false ∧ H' = H ∧ nx' = nx) := by
  refine acalls_of_awp L53 Try.func53 rfl (by kernel_rfl) ?_
  simp (disch := omega) only [go_sem, ↓reduceIte ]

def cmpI (a b : Int) : Int := if a < b then -1 else if b < a then 1 else 0
theorem cmp32_c {lo : Nat} (a b : Int) (H : AH) (nx : Nat) : ACalls Try.prog lo 38 #[.int .u32 a, .int .u32 b] H nx (fun v H' nx' => v = .int .i64 (cmpI a b) ∧ H' = H ∧ nx' = nx) := by
  refine acalls_of_awp L38 Try.func38 rfl (by kernel_rfl) ?_
  simp (disch := omega) only [go_sem, ↓reduceIte ]
  refine (nan32_c a H nx).mono fun v H' nx' _ ⟨hv, hH, hx⟩ => ?_
  subst hv; subst hH; subst hx
  simp (disch := omega) only [go_sem, ↓reduceIte ]
  refine (nan32_c b H' nx').mono fun v H' nx' _ ⟨hv, hH, hx⟩ => ?_
  subst hv; subst hH; subst hx
  unfold cmpI
  by_cases h : a < b
  · simp (disch := omega) only [go_sem, ↓reduceIte , h]
  · by_cases h2 : b < a
    · simp (disch := omega) only [go_sem, ↓reduceIte , h, h2]
    · simp (disch := omega) only [go_sem, ↓reduceIte , h, h2]
theorem cmp8_c {lo : Nat} (a b : Int) (H : AH) (nx : Nat) : ACalls Try.prog lo 39 #[.int .u8 a, .int .u8 b] H nx (fun v H' nx' => v = .int .i64 (cmpI a b) ∧ H' = H ∧ nx' = nx) := by
  refine acalls_of_awp L39 Try.func39 rfl (by kernel_rfl) ?_
  simp (disch := omega) only [go_sem, ↓reduceIte ]
  refine (nan8_c a H nx).mono fun v H' nx' _ ⟨hv, hH, hx⟩ => ?_
  subst hv; subst hH; subst hx
  simp (disch := omega) only [go_sem, ↓reduceIte ]
  refine (nan8_c b H' nx').mono fun v H' nx' _ ⟨hv, hH, hx⟩ => ?_
  subst hv; subst hH; subst hx
  unfold cmpI
  by_cases h : a < b
  · simp (disch := omega) only [go_sem, ↓reduceIte , h]
  · by_cases h2 : b < a
    · simp (disch := omega) only [go_sem, ↓reduceIte , h, h2]
    · simp (disch := omega) only [go_sem, ↓reduceIte , h, h2]

def orI2 (a b : Int) : Int := if a = 0 then b else a
structure OrI (g : Nat) (a b : Int) (m : Nat) (env : Env) (H0 : AH) (nx0 : Nat) (H : AH) (nx j : Nat) : Prop where
  hm : m = 2 - j
  hj : j ≤ 2
  henv : env = [(3, .int .i64 0), (6, .slice (some ⟨g, 0, none⟩) 2 2), (7, .int .i64 2), (8, .int .i64 j)]
  hH : H = H0
  hx : nx = nx0
  h0 : j = 1 → a = 0
  h1 : j = 2 → a = 0 ∧ b = 0
theorem cmpOr_c {lo : Nat} (g : Nat) (a b : Int) (H : AH) (nx : Nat) (c0 : H.c g 0 = some (.int .i64 a)) (c1 : H.c g 1 = some (.int .i64 b)) : ACalls Try.prog lo 37 #[.slice (some ⟨g, 0, none⟩) 2 2] H nx (fun v H' nx' => v = .int .i64 (orI2 a b) ∧ H' = H ∧ nx' = nx) := by
  refine acalls_of_awp L37 Try.func37 rfl (by kernel_rfl) ?_
  simp (disch := omega) only [go_sem, ↓reduceIte ]
  refine awp_loop (fun m env H1 nx1 => ∃ j, OrI g a b m env H nx H1 nx1 j) 2 ⟨0, ⟨rfl, by omega, rfl, rfl, rfl, by omega, by omega⟩⟩ (fun m env H1 nx1 ⟨j, hI⟩ hn => ?_)
  obtain ⟨hm, hj, henv, hH, hx, h0, h1⟩ := hI
  subst henv; subst hH; subst hx
  rcases (by omega : j = 0 ∨ j = 1 ∨ j = 2) with rfl | rfl | rfl
  · by_cases h : a = 0
    · simp (disch := omega) only [go_sem, ↓reduceIte , c0, h]
      exact ⟨1, by omega, 1, ⟨rfl, by omega, rfl, rfl, rfl, fun _ => rfl, by omega⟩⟩
    · simp (disch := omega) only [go_sem, ↓reduceIte , c0, h, orI2]
  · by_cases h : b = 0
    · simp (disch := omega) only [go_sem, ↓reduceIte , c1, h]
      exact ⟨0, by omega, 2, ⟨rfl, by omega, rfl, rfl, rfl, by omega, fun _ => ⟨h0 rfl, rfl⟩⟩⟩
    · have := h0 rfl
      simp (disch := omega) only [go_sem, ↓reduceIte , c1, h, orI2, this]
  · obtain ⟨e1, e2⟩ := h1 rfl
    simp (disch := omega) only [go_sem, ↓reduceIte , orI2, e1, e2]

def pxCmpI (a n a' n' : Int) : Int := orI2 (cmpI a a') (cmpI n n')
set_option maxRecDepth 20000 in
theorem pxCmp_d {lo : Nat} (a n a' n' : Int) (H : AH) (nx : Nat) : ACalls Try.prog lo 30 #[.agg #[.int .u32 a, .int .u8 n], .agg #[.int .u32 a', .int .u8 n']] H nx (fun v H' nx' => v = .int .i64 (pxCmpI a n a' n') ∧ nx ≤ nx' ∧ Kp (fun _ => False) nx H H' ∧ H'.d = H.d) := by
  refine ACalls.withLo fun hlo => ?_
  refine acalls_of_awp L30 Try.func30 rfl (by kernel_rfl) ?_
  simp (disch := omega) only [go_sem, ↓reduceIte ]
  intro p hp
  simp (disch := omega) only [go_sem, ↓reduceIte ]
  intro q hq
  simp (disch := omega) only [go_sem, ↓reduceIte ]
  refine awp_draw ord30x1 (by kernel_rfl) ?_
  simp (disch := omega) only [go_sem, ↓reduceIte , ord30x1]
  refine (cmp32_c a a' _ _).mono fun v H1 nx1 _ ⟨hv, hH, hx⟩ => ?_
  subst hv; subst hH; subst hx
  simp (disch := omega) only [go_sem, ↓reduceIte ]
  refine (cmp8_c n n' _ _).mono fun v H1 nx1 _ ⟨hv, hH, hx⟩ => ?_
  subst hv; subst hH; subst hx
  simp (disch := omega) only [go_sem, ↓reduceIte ]
  refine buildSQ_all (n := 2) [.int .i64 (cmpI a a'), .int .i64 (cmpI n n')] sl93 zero3 (by omega) (by omega) rfl (by simp [cells_int]) fun d hd => ?_
  simp (disch := omega) only [go_sem, ↓reduceIte ]
  refine ⟨dkeep_kp (by repeat first | exact Kp.refl _ _ _ | refine Kp.dropT ?_ (.inl (by omega)) | refine Kp.put ?_ (.inl (by omega)) | refine Kp.new ?_ (by omega) | refine Kp.put ?_ (.inr (by omega)) | refine Kp.newO ?_ (by omega) | refine Kp.setO ?_ (.inl (by omega)) | refine Kp.setO ?_ (.inr (by omega)) | refine Kp.trans0 ?_ (by assumption) (by omega) | refine Kp.transS ?_ (by assumption) (by omega) (fun b hb hT => by first | omega | (dsimp only at hT ⊢; omega) | (simp only at hT ⊢; omega))) , ?_⟩
  refine (cmpOr_c d (cmpI a a') (cmpI n n') _ _ (by simp (disch := omega) only [go_sem, ↓reduceIte ]; rfl) (by simp (disch := omega) only [go_sem, ↓reduceIte ]; rfl)).mono fun v H1 nx1 _ ⟨hv, hH, hx⟩ => ?_
  subst hv; subst hH; subst hx
  simp (disch := omega) only [go_sem, ↓reduceIte ]
  exact ⟨dkeep_last (by kernel_rfl), rfl, by omega, (by repeat first | exact Kp.refl _ _ _ | refine Kp.dropT ?_ (.inl (by omega)) | refine Kp.put ?_ (.inl (by omega)) | refine Kp.new ?_ (by omega) | refine Kp.put ?_ (.inr (by omega)) | refine Kp.newO ?_ (by omega) | refine Kp.setO ?_ (.inl (by omega)) | refine Kp.setO ?_ (.inr (by omega)) | refine Kp.trans0 ?_ (by assumption) (by omega) | refine Kp.transS ?_ (by assumption) (by omega) (fun b hb hT => by first | omega | (dsimp only at hT ⊢; omega) | (simp only at hT ⊢; omega))) ⟩
theorem pxCmp_c {lo : Nat} (a n a' n' : Int) (H : AH) (nx : Nat) : ACalls Try.prog lo 30 #[.agg #[.int .u32 a, .int .u8 n], .agg #[.int .u32 a', .int .u8 n']] H nx (fun v H' nx' => v = .int .i64 (pxCmpI a n a' n') ∧ nx ≤ nx' ∧ Kp (fun _ => False) nx H H') :=
  (pxCmp_d a n a' n' H nx).mono fun _ _ _ _ ⟨h1, h2, h3, _⟩ => ⟨h1, h2, h3⟩
end Go.Proofs.Ytgafnliohmdmoaa
