/- Comparisons of prefixes. Marks and serials, in our own logic: nearer, best. -/
import Derived.Test.YtngnbafididkcaaGreatFacts
import Derived.Test.YtngnbafididkcaaGreatL17
section
namespace Go.Proofs.YtngnbafididkcaaGreat
open Go.RowKit
set_option linter.unusedSimpArgs false

theorem nan32_c {lo : Nat} (a : Int) (H : AH) (nx : Nat) : ACalls Tryz.prog lo 118 #[.int .u32 a] H nx (fun v H' nx' => v = .bool false ∧ H' = H ∧ nx' = nx) := by
  refine acalls_of_awp L118 Tryz.func118 rfl (by kernel_rfl) ?_
  simp (disch := omega) only [go_sem, ↓reduceIte ]
theorem nan8_c {lo : Nat} (a : Int) (H : AH) (nx : Nat) : ACalls Tryz.prog lo 119 #[.int .u8 a] H nx (fun v H' nx' => v = .bool false ∧ H' = H ∧ nx' = nx) := by
  refine acalls_of_awp L119 Tryz.func119 rfl (by kernel_rfl) ?_
  simp (disch := omega) only [go_sem, ↓reduceIte ]

def cmpI (a b : Int) : Int := if a < b then -1 else if b < a then 1 else 0
theorem cmp32_c {lo : Nat} (a b : Int) (H : AH) (nx : Nat) : ACalls Tryz.prog lo 86 #[.int .u32 a, .int .u32 b] H nx (fun v H' nx' => v = .int .i64 (cmpI a b) ∧ H' = H ∧ nx' = nx) := by
  refine acalls_of_awp L86 Tryz.func86 rfl (by kernel_rfl) ?_
  simp (disch := omega) only [go_sem, ↓reduceIte ]
  refine (nan32_c a H nx).mono fun v H' nx' _ ⟨hv, hH, hx⟩ => ?_
  subst hv; subst hH; subst hx
  simp (disch := omega) only [go_sem, ↓reduceIte ]
  refine (nan32_c b H' nx').mono fun v H' nx' _ ⟨hv, hH, hx⟩ => ?_
  subst hv; subst hH; subst hx
  unfold cmpI
  by_cases h : a < b
  · simp (disch := omega) only [go_sem, ↓reduceIte , h]
  · by_cases h2 : b < a
    · simp (disch := omega) only [go_sem, ↓reduceIte , h, h2]
    · simp (disch := omega) only [go_sem, ↓reduceIte , h, h2]
theorem cmp8_c {lo : Nat} (a b : Int) (H : AH) (nx : Nat) : ACalls Tryz.prog lo 87 #[.int .u8 a, .int .u8 b] H nx (fun v H' nx' => v = .int .i64 (cmpI a b) ∧ H' = H ∧ nx' = nx) := by
  refine acalls_of_awp L87 Tryz.func87 rfl (by kernel_rfl) ?_
  simp (disch := omega) only [go_sem, ↓reduceIte ]
  refine (nan8_c a H nx).mono fun v H' nx' _ ⟨hv, hH, hx⟩ => ?_
  subst hv; subst hH; subst hx
  simp (disch := omega) only [go_sem, ↓reduceIte ]
  refine (nan8_c b H' nx').mono fun v H' nx' _ ⟨hv, hH, hx⟩ => ?_
  subst hv; subst hH; subst hx
  unfold cmpI
  by_cases h : a < b
  · simp (disch := omega) only [go_sem, ↓reduceIte , h]
  · by_cases h2 : b < a
    · simp (disch := omega) only [go_sem, ↓reduceIte , h, h2]
    · simp (disch := omega) only [go_sem, ↓reduceIte , h, h2]

def orI2 (a b : Int) : Int := if a = 0 then b else a
structure OrI (g : Nat) (a b : Int) (m : Nat) (env : Env) (H0 : AH) (nx0 : Nat) (H : AH) (nx j : Nat) : Prop where
  hm : m = 2 - j
  hj : j ≤ 2
  henv : env = [(3, .int .i64 0), (6, .slice (some ⟨g, 0, none⟩) 2 2), (7, .int .i64 2), (8, .int .i64 j)]
  hH : H = H0
  hx : nx = nx0
  h0 : j = 1 → a = 0
  h1 : j = 2 → a = 0 ∧ b = 0
theorem cmpOr_c {lo : Nat} (g : Nat) (a b : Int) (H : AH) (nx : Nat) (c0 : H.c g 0 = some (.int .i64 a)) (c1 : H.c g 1 = some (.int .i64 b)) : ACalls Tryz.prog lo 85 #[.slice (some ⟨g, 0, none⟩) 2 2] H nx (fun v H' nx' => v = .int .i64 (orI2 a b) ∧ H' = H ∧ nx' = nx) := by
  refine acalls_of_awp L85 Tryz.func85 rfl (by kernel_rfl) ?_
  simp (disch := omega) only [go_sem, ↓reduceIte ]
  refine awp_loop (fun m env H1 nx1 => ∃ j, OrI g a b m env H nx H1 nx1 j) 2 ⟨0, ⟨rfl, by omega, rfl, rfl, rfl, by omega, by omega⟩⟩ (fun m env H1 nx1 ⟨j, hI⟩ hn => ?_)
  obtain ⟨hm, hj, henv, hH, hx, h0, h1⟩ := hI
  subst henv; subst hH; subst hx
  rcases (by omega : j = 0 ∨ j = 1 ∨ j = 2) with rfl | rfl | rfl
  · by_cases h : a = 0
    · simp (disch := omega) only [go_sem, ↓reduceIte , c0, h]
      exact ⟨1, by omega, 1, ⟨rfl, by omega, rfl, rfl, rfl, fun _ => rfl, by omega⟩⟩
    · simp (disch := omega) only [go_sem, ↓reduceIte , c0, h, orI2]
  · by_cases h : b = 0
    · simp (disch := omega) only [go_sem, ↓reduceIte , c1, h]
      exact ⟨0, by omega, 2, ⟨rfl, by omega, rfl, rfl, rfl, by omega, fun _ => ⟨h0 rfl, rfl⟩⟩⟩
    · have := h0 rfl
      simp (disch := omega) only [go_sem, ↓reduceIte , c1, h, orI2, this]
  · obtain ⟨e1, e2⟩ := h1 rfl
    simp (disch := omega) only [go_sem, ↓reduceIte , orI2, e1, e2]

def pxCmpI (a n a' n' : Int) : Int := orI2 (cmpI a a') (cmpI n n')
set_option maxRecDepth 20000 in
theorem pxCmp_d {lo : Nat} (a n a' n' : Int) (H : AH) (nx : Nat) : ACalls Tryz.prog lo 48 #[.agg #[.int .u32 a, .int .u8 n], .agg #[.int .u32 a', .int .u8 n']] H nx (fun v H' nx' => v = .int .i64 (pxCmpI a n a' n') ∧ nx ≤ nx' ∧ Kp (fun _ => False) nx H H' ∧ H'.d = H.d) := by
  refine ACalls.withLo fun hlo => ?_
  refine acalls_of_awp L48 Tryz.func48 rfl (by kernel_rfl) ?_
  simp (disch := omega) only [go_sem, ↓reduceIte ]
  intro p hp
  simp (disch := omega) only [go_sem, ↓reduceIte ]
  intro q hq
  simp (disch := omega) only [go_sem, ↓reduceIte ]
  refine awp_draw ord48x1 (by kernel_rfl) ?_
  simp (disch := omega) only [go_sem, ↓reduceIte , ord48x1]
  refine (cmp32_c a a' _ _).mono fun v H1 nx1 _ ⟨hv, hH, hx⟩ => ?_
  subst hv; subst hH; subst hx
  simp (disch := omega) only [go_sem, ↓reduceIte ]
  refine (cmp8_c n n' _ _).mono fun v H1 nx1 _ ⟨hv, hH, hx⟩ => ?_
  subst hv; subst hH; subst hx
  simp (disch := omega) only [go_sem, ↓reduceIte ]
  refine buildSQ_all (n := 2) [.int .i64 (cmpI a a'), .int .i64 (cmpI n n')] sl122 zero3 (by omega) (by omega) rfl (by simp [cells_int]) fun d hd => ?_
  simp (disch := omega) only [go_sem, ↓reduceIte ]
  refine ⟨dkeep_kp (by repeat first | exact Kp.refl _ _ _ | refine Kp.dropT ?_ (.inl (by omega)) | refine Kp.put ?_ (.inl (by omega)) | refine Kp.new ?_ (by omega) | refine Kp.put ?_ (.inr (by omega)) | refine Kp.newO ?_ (by omega) | refine Kp.setO ?_ (.inl (by omega)) | refine Kp.setO ?_ (.inr (by omega)) | refine Kp.trans0 ?_ (by assumption) (by omega) | refine Kp.transS ?_ (by assumption) (by omega) (fun b hb hT => by first | omega | (dsimp only at hT ⊢; omega) | (simp only at hT ⊢; omega))) , ?_⟩
  refine (cmpOr_c d (cmpI a a') (cmpI n n') _ _ (by simp (disch := omega) only [go_sem, ↓reduceIte ]; rfl) (by simp (disch := omega) only [go_sem, ↓reduceIte ]; rfl)).mono fun v H1 nx1 _ ⟨hv, hH, hx⟩ => ?_
  subst hv; subst hH; subst hx
  simp (disch := omega) only [go_sem, ↓reduceIte ]
  exact ⟨dkeep_last (by kernel_rfl), rfl, by omega, (by repeat first | exact Kp.refl _ _ _ | refine Kp.dropT ?_ (.inl (by omega)) | refine Kp.put ?_ (.inl (by omega)) | refine Kp.new ?_ (by omega) | refine Kp.put ?_ (.inr (by omega)) | refine Kp.newO ?_ (by omega) | refine Kp.setO ?_ (.inl (by omega)) | refine Kp.setO ?_ (.inr (by omega)) | refine Kp.trans0 ?_ (by assumption) (by omega) | refine Kp.transS ?_ (by assumption) (by omega) (fun b hb hT => by first | omega | (dsimp only at hT ⊢; omega) | (simp only at hT ⊢; omega))) ⟩
theorem pxCmp_c {lo : Nat} (a n a' n' : Int) (H : AH) (nx : Nat) : ACalls Tryz.prog lo 48 #[.agg #[.int .u32 a, .int .u8 n], .agg #[.int .u32 a', .int .u8 n']] H nx (fun v H' nx' => v = .int .i64 (pxCmpI a n a' n') ∧ nx ≤ nx' ∧ Kp (fun _ => False) nx H H') :=
  (pxCmp_d a n a' n' H nx).mono fun _ _ _ _ ⟨h1, h2, h3, _⟩ => ⟨h1, h2, h3⟩
end Go.Proofs.YtngnbafididkcaaGreat
end
section
namespace Go.Proofs.YtngnbafididkcaaGreat
open Go.RowKit
set_option linter.unusedSimpArgs false

def newI (a b : Int) : Bool := decide (¬ a = b) && decide ((a - b) % 65536 < 32768)
theorem wrap_u16_sub {a b : Int} : IntKind.u16.wrap (a - b) = (a - b) % 65536 := by
  simp only [IntKind.wrap, IntKind.bits, IntKind.signed]
  simp
theorem snewer_c {lo : Nat} (a b : Int) (H : AH) (nx : Nat) : ACalls Tryz.prog lo 77 #[.int .u16 a, .int .u16 b] H nx (fun v H' nx' => v = .bool (newI a b) ∧ H' = H ∧ nx' = nx) := by
  refine acalls_of_awp L77 Tryz.func77 rfl (by kernel_rfl) ?_
  unfold newI
  by_cases h : a = b
  · simp (disch := omega) only [go_sem, ↓reduceIte , h]
    simp
  · simp (disch := omega) only [go_sem, ↓reduceIte , h, wrap_u16_sub]
    simp

def nearI (s m s' m' : Int) : Bool := newI s s' || (decide (s = s') && decide (m < m'))
theorem snearer_c {lo : Nat} (s m s' m' : Int) (H : AH) (nx : Nat) : ACalls Tryz.prog lo 103 #[.agg #[.int .u16 s, .int .u16 m], .agg #[.int .u16 s', .int .u16 m']] H nx (fun v H' nx' => v = .bool (nearI s m s' m') ∧ nx ≤ nx' ∧ Kp (fun _ => False) nx H H') := by
  refine ACalls.withLo fun hlo => ?_
  refine acalls_of_awp L103 Tryz.func103 rfl (by kernel_rfl) ?_
  simp (disch := omega) only [go_sem, ↓reduceIte ]
  intro p hp
  simp (disch := omega) only [go_sem, ↓reduceIte ]
  intro q hq
  simp (disch := omega) only [go_sem, ↓reduceIte ]
  refine (snewer_c s s' _ _).mono fun v H1 nx1 _ ⟨hv, hH, hx⟩ => ?_
  subst hv; subst hH; subst hx
  unfold nearI
  cases hn : newI s s' with
  | true =>
    simp (disch := omega) only [go_sem, ↓reduceIte ]
    refine ⟨?_, by omega, (by repeat first | exact Kp.refl _ _ _ | refine Kp.dropT ?_ (.inl (by omega)) | refine Kp.put ?_ (.inl (by omega)) | refine Kp.new ?_ (by omega) | refine Kp.put ?_ (.inr (by omega)) | refine Kp.newO ?_ (by omega) | refine Kp.setO ?_ (.inl (by omega)) | refine Kp.setO ?_ (.inr (by omega)) | refine Kp.trans0 ?_ (by assumption) (by omega) | refine Kp.transS ?_ (by assumption) (by omega) (fun b hb hT => by first | omega | (dsimp only at hT ⊢; omega) | (simp only at hT ⊢; omega))) ⟩
    simp
  | false =>
    by_cases h : s = s'
    · simp (disch := omega) only [go_sem, ↓reduceIte , h]
      refine ⟨?_, by omega, (by repeat first | exact Kp.refl _ _ _ | refine Kp.dropT ?_ (.inl (by omega)) | refine Kp.put ?_ (.inl (by omega)) | refine Kp.new ?_ (by omega) | refine Kp.put ?_ (.inr (by omega)) | refine Kp.newO ?_ (by omega) | refine Kp.setO ?_ (.inl (by omega)) | refine Kp.setO ?_ (.inr (by omega)) | refine Kp.trans0 ?_ (by assumption) (by omega) | refine Kp.transS ?_ (by assumption) (by omega) (fun b hb hT => by first | omega | (dsimp only at hT ⊢; omega) | (simp only at hT ⊢; omega))) ⟩
      simp
    · simp (disch := omega) only [go_sem, ↓reduceIte , h]
      refine ⟨?_, by omega, (by repeat first | exact Kp.refl _ _ _ | refine Kp.dropT ?_ (.inl (by omega)) | refine Kp.put ?_ (.inl (by omega)) | refine Kp.new ?_ (by omega) | refine Kp.put ?_ (.inr (by omega)) | refine Kp.newO ?_ (by omega) | refine Kp.setO ?_ (.inl (by omega)) | refine Kp.setO ?_ (.inr (by omega)) | refine Kp.trans0 ?_ (by assumption) (by omega) | refine Kp.transS ?_ (by assumption) (by omega) (fun b hb hT => by first | omega | (dsimp only at hT ⊢; omega) | (simp only at hT ⊢; omega))) ⟩
      simp

theorem sbest_c {lo : Nat} (s m s' m' : Int) (H : AH) (nx : Nat) : ACalls Tryz.prog lo 80 #[.agg #[.int .u16 s, .int .u16 m], .agg #[.int .u16 s', .int .u16 m']] H nx (fun v H' nx' => v = (if nearI s' m' s m = true then .agg #[.int .u16 s', .int .u16 m'] else .agg #[.int .u16 s, .int .u16 m]) ∧ nx ≤ nx' ∧ Kp (fun _ => False) nx H H') := by
  refine ACalls.withLo fun hlo => ?_
  refine acalls_of_awp L80 Tryz.func80 rfl (by kernel_rfl) ?_
  simp (disch := omega) only [go_sem, ↓reduceIte ]
  intro p hp
  simp (disch := omega) only [go_sem, ↓reduceIte ]
  intro q hq
  simp (disch := omega) only [go_sem, ↓reduceIte ]
  intro r hr
  simp (disch := omega) only [go_sem, ↓reduceIte ]
  refine (snearer_c s' m' s m _ _).mono fun v H1 nx1 _ ⟨hv, hx1, hk1⟩ => ?_
  subst hv
  have hc1 := hk1.cell0
  cases hn : nearI s' m' s m with
  | true =>
    simp (disch := omega) only [go_sem, ↓reduceIte , hc1]
    exact ⟨by omega, (by repeat first | exact Kp.refl _ _ _ | refine Kp.dropT ?_ (.inl (by omega)) | refine Kp.put ?_ (.inl (by omega)) | refine Kp.new ?_ (by omega) | refine Kp.put ?_ (.inr (by omega)) | refine Kp.newO ?_ (by omega) | refine Kp.setO ?_ (.inl (by omega)) | refine Kp.setO ?_ (.inr (by omega)) | refine Kp.trans0 ?_ (by assumption) (by omega) | refine Kp.transS ?_ (by assumption) (by omega) (fun b hb hT => by first | omega | (dsimp only at hT ⊢; omega) | (simp only at hT ⊢; omega))) ⟩
  | false =>
    simp (disch := omega) only [go_sem, ↓reduceIte , hc1]
    exact ⟨by omega, (by repeat first | exact Kp.refl _ _ _ | refine Kp.dropT ?_ (.inl (by omega)) | refine Kp.put ?_ (.inl (by omega)) | refine Kp.new ?_ (by omega) | refine Kp.put ?_ (.inr (by omega)) | refine Kp.newO ?_ (by omega) | refine Kp.setO ?_ (.inl (by omega)) | refine Kp.setO ?_ (.inr (by omega)) | refine Kp.trans0 ?_ (by assumption) (by omega) | refine Kp.transS ?_ (by assumption) (by omega) (fun b hb hT => by first | omega | (dsimp only at hT ⊢; omega) | (simp only at hT ⊢; omega))) ⟩

/-- The document's own. -/
theorem newer01_c {lo : Nat} (a b : Int) (a0 : 0 ≤ a) (a1 : a ≤ 65535) (b0 : 0 ≤ b) (b1 : b ≤ 65535) (H : AH) (nx : Nat) : ACalls Tryz.prog lo 29 #[.int .u16 a, .int .u16 b] H nx (fun v H' nx' => v = .bool (newI a b) ∧ H' = H ∧ nx' = nx) := by
  refine acalls_of_awp L29 Tryz.func29 rfl (by kernel_rfl) ?_
  unfold newI
  by_cases h : 1 ≤ (a - b + 65536) % 65536
  · simp (disch := omega) only [go_sem, ↓reduceIte , h]
    rw [decide_eq_decide]
    omega
  · simp (disch := omega) only [go_sem, ↓reduceIte , h]

theorem nearer01_c {lo : Nat} (s m s' m' : Int) (a0 : 0 ≤ s) (a1 : s ≤ 65535) (b0 : 0 ≤ s') (b1 : s' ≤ 65535) (H : AH) (nx : Nat) : ACalls Tryz.prog lo 24 #[.agg #[.int .u16 s, .int .u16 m], .agg #[.int .u16 s', .int .u16 m']] H nx (fun v H' nx' => v = .bool (nearI s m s' m') ∧ nx ≤ nx' ∧ Kp (fun _ => False) nx H H') := by
  refine ACalls.withLo fun hlo => ?_
  refine acalls_of_awp L24 Tryz.func24 rfl (by kernel_rfl) ?_
  simp (disch := omega) only [go_sem, ↓reduceIte ]
  intro p hp
  simp (disch := omega) only [go_sem, ↓reduceIte ]
  intro q hq
  by_cases h : s = s'
  · simp (disch := omega) only [go_sem, ↓reduceIte , h]
    refine ⟨?_, by omega, (by repeat first | exact Kp.refl _ _ _ | refine Kp.dropT ?_ (.inl (by omega)) | refine Kp.put ?_ (.inl (by omega)) | refine Kp.new ?_ (by omega) | refine Kp.put ?_ (.inr (by omega)) | refine Kp.newO ?_ (by omega) | refine Kp.setO ?_ (.inl (by omega)) | refine Kp.setO ?_ (.inr (by omega)) | refine Kp.trans0 ?_ (by assumption) (by omega) | refine Kp.transS ?_ (by assumption) (by omega) (fun b hb hT => by first | omega | (dsimp only at hT ⊢; omega) | (simp only at hT ⊢; omega))) ⟩
    simp [nearI, newI]
  · simp (disch := omega) only [go_sem, ↓reduceIte , h]
    refine (newer01_c s s' a0 a1 b0 b1 _ _).mono fun v H1 nx1 _ ⟨hv, hH, hx⟩ => ?_
    subst hv; subst hH; subst hx
    simp (disch := omega) only [go_sem, ↓reduceIte ]
    refine ⟨?_, by omega, (by repeat first | exact Kp.refl _ _ _ | refine Kp.dropT ?_ (.inl (by omega)) | refine Kp.put ?_ (.inl (by omega)) | refine Kp.new ?_ (by omega) | refine Kp.put ?_ (.inr (by omega)) | refine Kp.newO ?_ (by omega) | refine Kp.setO ?_ (.inl (by omega)) | refine Kp.setO ?_ (.inr (by omega)) | refine Kp.trans0 ?_ (by assumption) (by omega) | refine Kp.transS ?_ (by assumption) (by omega) (fun b hb hT => by first | omega | (dsimp only at hT ⊢; omega) | (simp only at hT ⊢; omega))) ⟩
    simp [nearI, h]
end Go.Proofs.YtngnbafididkcaaGreat
end
