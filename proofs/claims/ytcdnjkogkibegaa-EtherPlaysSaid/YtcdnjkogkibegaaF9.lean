/- Ether, in our own logic: a nil one. -/
import Derived.Test.YtcdnjkogkibegaaF8
namespace Go.Proofs.Ytcdnjkogkibegaa
open Go.RowKit
set_option linter.unusedSimpArgs false

theorem nil_join {lo : Nat} {H : AH} {nx : Nat} (a b : Int) (on : Bool) : ACalls Try.prog lo 10 #[.pointer none, .int .i64 a, .int .i64 b, .bool on] H nx (fun v H' nx' => v = .int .i64 2 ∧ H' = H ∧ nx' = nx) := by
  refine acalls_of_awp L10 Try.func10 rfl (by kernel_rfl) ?_
  simp (disch := omega) only [go_sem, ↓reduceIte ]

theorem nil_send {lo : Nat} {H : AH} {nx : Nat} (a : Int) (s : Value) : ACalls Try.prog lo 11 #[.pointer none, .int .i64 a, s] H nx (fun v H' nx' => v = .int .i64 0 ∧ H' = H ∧ nx' = nx) := by
  refine acalls_of_awp L11 Try.func11 rfl (by kernel_rfl) ?_
  simp (disch := omega) only [go_sem, ↓reduceIte ]

theorem nil_len {lo : Nat} {H : AH} {nx : Nat} : ACalls Try.prog lo 13 #[.pointer none] H nx (fun v H' nx' => v = .int .i64 0 ∧ H' = H ∧ nx' = nx) := by
  refine acalls_of_awp L13 Try.func13 rfl (by kernel_rfl) ?_
  simp (disch := omega) only [go_sem, ↓reduceIte ]

theorem nil_hears {lo : Nat} {H : AH} {nx : Nat} (a b : Int) : ACalls Try.prog lo 14 #[.pointer none, .int .i64 a, .int .i64 b] H nx (fun v H' nx' => v = .bool false ∧ H' = H ∧ nx' = nx) := by
  refine acalls_of_awp L14 Try.func14 rfl (by kernel_rfl) ?_
  simp (disch := omega) only [go_sem, ↓reduceIte ]

theorem nil_at {lo : Nat} {H : AH} {nx : Nat} (i : Int) : ACalls Try.prog lo 33 #[.pointer none, .int .i64 i] H nx (fun v H' nx' => v = .tuple #[.int .i64 0, .bool false] ∧ H' = H ∧ nx' = nx) := by
  refine acalls_of_awp L33 Try.func33 rfl (by kernel_rfl) ?_
  simp (disch := omega) only [go_sem, ↓reduceIte ]

theorem nil_peek {lo : Nat} {H : AH} {nx : Nat} (i : Int) : ACalls Try.prog lo 12 #[.pointer none, .int .i64 i] H nx (fun v H' nx' => v = .tuple #[.agg #[.int .i64 0, .int .i64 0, .slice none 0 0], .int .i64 2] ∧ nx ≤ nx' ∧ Kp (fun _ => False) nx H H') := by
  refine ACalls.withLo fun hlo => ?_
  refine acalls_of_awp L12 Try.func12 rfl (by kernel_rfl) ?_
  simp (disch := omega) only [go_sem, ↓reduceIte ]
  intro n hn
  simp (disch := omega) only [go_sem, ↓reduceIte ]
  refine (nil_at i).mono fun v H' nx' _ ⟨hv, hH, hx⟩ => ?_
  subst hv; subst hH; subst hx
  simp (disch := omega) only [go_sem, ↓reduceIte ]
  exact ⟨by omega, (by repeat first | exact Kp.refl _ _ _ | refine Kp.dropT ?_ (.inl (by omega)) | refine Kp.put ?_ (.inl (by omega)) | refine Kp.new ?_ (by omega) | refine Kp.put ?_ (.inr (by omega)) | refine Kp.trans0 ?_ (by assumption) (by omega) | refine Kp.transS ?_ (by assumption) (by omega) (fun b hb hT => by first | omega | (dsimp only at hT ⊢; omega) | (simp only at hT ⊢; omega))) ⟩

theorem nil_take {lo : Nat} {H : AH} {nx : Nat} (i : Int) : ACalls Try.prog lo 15 #[.pointer none, .int .i64 i] H nx (fun v H' nx' => v = .tuple #[.agg #[.int .i64 0, .int .i64 0, .slice none 0 0], .int .i64 2] ∧ nx ≤ nx' ∧ Kp (fun _ => False) nx H H') := by
  refine ACalls.withLo fun hlo => ?_
  refine acalls_of_awp L15 Try.func15 rfl (by kernel_rfl) ?_
  simp (disch := omega) only [go_sem, ↓reduceIte ]
  intro n hn
  simp (disch := omega) only [go_sem, ↓reduceIte ]
  refine (nil_peek i).mono fun v H' nx' _ ⟨hv, hx, hk⟩ => ?_
  subst hv
  have hcc := hk.cell0
  simp (disch := omega) only [go_sem, ↓reduceIte ]
  intro m hm
  simp (disch := omega) only [go_sem, ↓reduceIte , hcc]
  exact ⟨by omega, (by repeat first | exact Kp.refl _ _ _ | refine Kp.dropT ?_ (.inl (by omega)) | refine Kp.put ?_ (.inl (by omega)) | refine Kp.new ?_ (by omega) | refine Kp.put ?_ (.inr (by omega)) | refine Kp.trans0 ?_ (by assumption) (by omega) | refine Kp.transS ?_ (by assumption) (by omega) (fun b hb hT => by first | omega | (dsimp only at hT ⊢; omega) | (simp only at hT ⊢; omega))) ⟩

theorem nil_lose {lo : Nat} {H : AH} {nx : Nat} (i : Int) : ACalls Try.prog lo 29 #[.pointer none, .int .i64 i] H nx (fun v H' nx' => v = .int .i64 2 ∧ nx ≤ nx' ∧ Kp (fun _ => False) nx H H') := by
  refine ACalls.withLo fun hlo => ?_
  refine acalls_of_awp L29 Try.func29 rfl (by kernel_rfl) ?_
  simp (disch := omega) only [go_sem, ↓reduceIte ]
  refine (nil_take i).mono fun v H' nx' _ ⟨hv, hx, hk⟩ => ?_
  subst hv
  simp (disch := omega) only [go_sem, ↓reduceIte ]
  intro m hm
  simp (disch := omega) only [go_sem, ↓reduceIte ]
  exact ⟨by omega, (by repeat first | exact Kp.refl _ _ _ | refine Kp.dropT ?_ (.inl (by omega)) | refine Kp.put ?_ (.inl (by omega)) | refine Kp.new ?_ (by omega) | refine Kp.put ?_ (.inr (by omega)) | refine Kp.trans0 ?_ (by assumption) (by omega) | refine Kp.transS ?_ (by assumption) (by omega) (fun b hb hT => by first | omega | (dsimp only at hT ⊢; omega) | (simp only at hT ⊢; omega))) ⟩

theorem nil_double {lo : Nat} {H : AH} {nx : Nat} (i : Int) : ACalls Try.prog lo 28 #[.pointer none, .int .i64 i] H nx (fun v H' nx' => v = .int .i64 2 ∧ nx ≤ nx' ∧ Kp (fun _ => False) nx H H') := by
  refine ACalls.withLo fun hlo => ?_
  refine acalls_of_awp L28 Try.func28 rfl (by kernel_rfl) ?_
  simp (disch := omega) only [go_sem, ↓reduceIte ]
  refine (nil_peek i).mono fun v H' nx' _ ⟨hv, hx, hk⟩ => ?_
  subst hv
  simp (disch := omega) only [go_sem, ↓reduceIte ]
  intro m hm
  simp (disch := omega) only [go_sem, ↓reduceIte ]
  exact ⟨by omega, (by repeat first | exact Kp.refl _ _ _ | refine Kp.dropT ?_ (.inl (by omega)) | refine Kp.put ?_ (.inl (by omega)) | refine Kp.new ?_ (by omega) | refine Kp.put ?_ (.inr (by omega)) | refine Kp.trans0 ?_ (by assumption) (by omega) | refine Kp.transS ?_ (by assumption) (by omega) (fun b hb hT => by first | omega | (dsimp only at hT ⊢; omega) | (simp only at hT ⊢; omega))) ⟩

end Go.Proofs.Ytcdnjkogkibegaa
