/- RoutesSelect: what a neighbor costs; the first number of a prefix. -/
import Derived.Test.YtgopmklcggoliaaW1
namespace Go.Proofs.Ytgopmklcggoliaa
open Go.RowKit
set_option linter.unusedSimpArgs false

def costI (b : Nat) : Int := (costL[b]?).getD 65535
set_option maxRecDepth 20000 in
theorem cost16_c {lo : Nat} {H : AH} {nx : Nat} (b : Nat) (hb : b < 8) : ACalls Try.prog lo 18 #[.int .i64 b] H nx (fun v H' nx' => v = .int .u16 (costI b) ∧ nx ≤ nx' ∧ Kp (fun _ => False) nx H H') := by
  refine ACalls.withLo fun hlo => ?_
  refine acalls_of_awp L18 Try.func18 rfl (by kernel_rfl) ?_
  by_cases h7 : 7 ≤ b
  · obtain rfl : b = 7 := by omega
    simp (disch := omega) only [go_sem, ↓reduceIte ]
    exact ⟨rfl, Nat.le_refl _, Kp.refl _ _ _⟩
  · simp (disch := omega) only [go_sem, ↓reduceIte ]
    refine costs_c.mono fun v H1 nx1 _ ⟨d, hd, hv, hsc, hx1, hk1⟩ => ?_
    subst hv
    obtain ⟨c, hc⟩ : ∃ c, costL[b]? = some c := ⟨_, List.getElem?_eq_getElem (by simp [costL]; omega)⟩
    have h0 : H1.c d b = some (.int .u16 c) := by
      have := hsc.cells.1 b (.int .u16 c) (by rw [List.getElem?_map, hc]; rfl)
      simpa using this
    have e : costI b = c := by unfold costI; rw [hc]; rfl
    simp (disch := omega) only [go_sem, ↓reduceIte , h0, e]
    exact ⟨by omega, (by repeat first | exact Kp.refl _ _ _ | refine Kp.dropT ?_ (.inl (by omega)) | refine Kp.put ?_ (.inl (by omega)) | refine Kp.new ?_ (by omega) | refine Kp.put ?_ (.inr (by omega)) | refine Kp.trans0 ?_ (by assumption) (by omega) | refine Kp.transS ?_ (by assumption) (by omega) (fun b hb hT => by first | omega | (dsimp only at hT ⊢; omega) | (simp only at hT ⊢; omega))) ⟩

structure FiI (q : Nat) (a n : Int) (k : Nat) (nx0 : Nat) (H0 : AH) (m : Nat) (env : Env) (H : AH) (nx i : Nat) : Prop where
  hm : m = k - i
  hi : i ≤ k
  henv : env = [(1, .pointer (some ⟨q, 0, none⟩)), (3, .int .i64 i)]
  hx : nx0 ≤ nx
  hk : Kp (fun _ => False) nx0 H0 H
  hp : ∀ j : Nat, j < i → ¬ (pfxA j = a ∧ pfxN j = n)
set_option maxRecDepth 20000 in
theorem first16_c {lo : Nat} {H : AH} {nx : Nat} (k : Nat) (hk : k < 18) : ACalls Try.prog lo 17 #[.agg #[.int .u32 (pfxA k), .int .u8 (pfxN k)]] H nx (fun v H' nx' => nx ≤ nx' ∧ Kp (fun _ => False) nx H H' ∧ ∃ j : Nat, v = .int .i64 j ∧ j ≤ k ∧ pfxA j = pfxA k ∧ pfxN j = pfxN k ∧ ∀ i : Nat, i < j → ¬ (pfxA i = pfxA k ∧ pfxN i = pfxN k)) := by
  refine ACalls.withLo fun hlo => ?_
  refine acalls_of_awp L17 Try.func17 rfl (by kernel_rfl) ?_
  simp (disch := omega) only [go_sem, ↓reduceIte ]
  intro q hq
  simp (disch := omega) only [go_sem, ↓reduceIte ]
  refine awp_loop (fun m env H1 nx1 => ∃ i, FiI q (pfxA k) (pfxN k) k (q + 1) (H.new q #[.int .u32 (pfxA k), .int .u8 (pfxN k)] 39) m env H1 nx1 i) k ⟨0, ⟨rfl, by omega, rfl, Nat.le_refl _, Kp.refl _ _ _, fun j hj => by omega⟩⟩ (fun m env H1 nx1 ⟨i, hI⟩ hn => ?_)
  obtain ⟨hm, hi, henv, hx1, hk1, hp⟩ := hI
  subst henv
  have hc1 := hk1.cell0
  simp (disch := omega) only [go_sem, ↓reduceIte ]
  refine awp_draw ord17x4 (by kernel_rfl) ?_
  simp (disch := omega) only [go_sem, ↓reduceIte , ord17x4, hc1]
  refine (pfx_c (i : Int) (by omega) (by omega) _ _).mono fun v H2 nx2 _ ⟨hv, hx2, hk2⟩ => ?_
  subst hv
  have hc2 := hk2.cell0
  by_cases h : pfxA i = pfxA k ∧ pfxN i = pfxN k
  · obtain ⟨h1, h2⟩ := h
    simp (disch := omega) only [go_sem, ↓reduceIte , hc2, hc1, h1, h2]
    exact ⟨dkeep_kp hk2, by omega, (by repeat first | exact Kp.refl _ _ _ | refine Kp.dropT ?_ (.inl (by omega)) | refine Kp.put ?_ (.inl (by omega)) | refine Kp.new ?_ (by omega) | refine Kp.put ?_ (.inr (by omega)) | refine Kp.trans0 ?_ (by assumption) (by omega) | refine Kp.transS ?_ (by assumption) (by omega) (fun b hb hT => by first | omega | (dsimp only at hT ⊢; omega) | (simp only at hT ⊢; omega))) , i, rfl, hi, h1, h2, hp⟩
  · have hik : i < k := by
      by_cases e : i = k
      · subst e; exact absurd ⟨rfl, rfl⟩ h
      · omega
    have hnext : ∀ j : Nat, j < i + 1 → ¬ (pfxA j = pfxA k ∧ pfxN j = pfxN k) := fun j hj => by
      by_cases e : j = i
      · subst e; exact h
      · exact hp j (by omega)
    by_cases h1 : pfxA i = pfxA k
    · have h2 : ¬ pfxN i = pfxN k := fun h2 => h ⟨h1, h2⟩
      simp (disch := omega) only [go_sem, ↓reduceIte , hc2, hc1, h1, h2]
      exact ⟨dkeep_kp hk2, k - (i + 1), by omega, i + 1, ⟨rfl, by omega, rfl, by omega, (by repeat first | exact Kp.refl _ _ _ | refine Kp.dropT ?_ (.inl (by omega)) | refine Kp.put ?_ (.inl (by omega)) | refine Kp.new ?_ (by omega) | refine Kp.put ?_ (.inr (by omega)) | refine Kp.trans0 ?_ (by assumption) (by omega) | refine Kp.transS ?_ (by assumption) (by omega) (fun b hb hT => by first | omega | (dsimp only at hT ⊢; omega) | (simp only at hT ⊢; omega))) , hnext⟩⟩
    · simp (disch := omega) only [go_sem, ↓reduceIte , hc2, hc1, h1]
      exact ⟨dkeep_kp hk2, k - (i + 1), by omega, i + 1, ⟨rfl, by omega, rfl, by omega, (by repeat first | exact Kp.refl _ _ _ | refine Kp.dropT ?_ (.inl (by omega)) | refine Kp.put ?_ (.inl (by omega)) | refine Kp.new ?_ (by omega) | refine Kp.put ?_ (.inr (by omega)) | refine Kp.trans0 ?_ (by assumption) (by omega) | refine Kp.transS ?_ (by assumption) (by omega) (fun b hb hT => by first | omega | (dsimp only at hT ⊢; omega) | (simp only at hT ⊢; omega))) , hnext⟩⟩
end Go.Proofs.Ytgopmklcggoliaa
