/- Shelf: a nil one; the reference's Right. -/
import Derived.Test.YtcdimjocdpogjaaY2
namespace Go.Proofs.Ytcdimjocdpogjaa
open Go.RowKit
set_option linter.unusedSimpArgs false

theorem nilArm {lo : Nat} {H : AH} {nx : Nat} (n : Int) : ACalls Try.prog lo 17 #[.pointer none, .int .i64 n] H nx (fun v H' nx' => v = .tuple #[] ∧ H' = H ∧ nx' = nx) := by
  refine acalls_of_awp L17 Try.func17 rfl (by kernel_rfl) ?_
  simp (disch := omega) only [go_sem, ↓reduceIte ]
theorem nilRoom {lo : Nat} {H : AH} {nx : Nat} (n : Int) : ACalls Try.prog lo 18 #[.pointer none, .int .i64 n] H nx (fun v H' nx' => v = .tuple #[] ∧ H' = H ∧ nx' = nx) := by
  refine acalls_of_awp L18 Try.func18 rfl (by kernel_rfl) ?_
  simp (disch := omega) only [go_sem, ↓reduceIte ]
theorem nilFall {lo : Nat} {H : AH} {nx : Nat} (n m : Int) : ACalls Try.prog lo 14 #[.pointer none, .int .i64 n, .int .i64 m] H nx (fun v H' nx' => v = .tuple #[] ∧ H' = H ∧ nx' = nx) := by
  refine acalls_of_awp L14 Try.func14 rfl (by kernel_rfl) ?_
  simp (disch := omega) only [go_sem, ↓reduceIte ]
theorem nilRead {lo : Nat} {H : AH} {nx : Nat} (s : ByteArray) : ACalls Try.prog lo 15 #[.pointer none, .string s] H nx (fun v H' nx' => v = .tuple #[.slice none 0 0, .int .i64 7] ∧ H' = H ∧ nx' = nx) := by
  refine acalls_of_awp L15 Try.func15 rfl (by kernel_rfl) ?_
  simp (disch := omega) only [go_sem, ↓reduceIte ]
theorem nilList {lo : Nat} {H : AH} {nx : Nat} : ACalls Try.prog lo 21 #[.pointer none] H nx (fun v H' nx' => v = .slice none 0 0 ∧ nx ≤ nx' ∧ Kp (fun _ => False) nx H H') := by
  refine acalls_of_awp L21 Try.func21 rfl (by kernel_rfl) ?_
  simp (disch := omega) only [go_sem, ↓reduceIte ]
  exact ⟨Nat.le_refl _, Kp.refl _ _ _⟩
theorem nilAct {lo : Nat} {H : AH} {nx : Nat} : ACalls Try.prog lo 29 #[.pointer none] H nx (fun v H' nx' => v = .int .i64 7 ∧ nx ≤ nx' ∧ Kp (fun _ => False) nx H H') := by
  refine acalls_of_awp L29 Try.func29 rfl (by kernel_rfl) ?_
  simp (disch := omega) only [go_sem, ↓reduceIte ]
  exact ⟨Nat.le_refl _, Kp.refl _ _ _⟩
theorem nilNames {lo : Nat} {H : AH} {nx : Nat} : ACalls Try.prog lo 13 #[.pointer none] H nx (fun v H' nx' => v = .int .i64 7 ∧ nx ≤ nx' ∧ Kp (fun _ => False) nx H H') := by
  refine acalls_of_awp L13 Try.func13 rfl (by kernel_rfl) ?_
  simp (disch := omega) only [go_sem, ↓reduceIte ]
  refine nilAct.mono fun v H1 nx1 _ ⟨hv, hx, hk⟩ => ?_
  subst hv
  simp (disch := omega) only [go_sem, ↓reduceIte ]
  exact ⟨by omega, hk⟩
theorem nilUsed {lo : Nat} {H : AH} {nx : Nat} : ACalls Try.prog lo 22 #[.pointer none] H nx (fun v H' nx' => v = .int .i64 0 ∧ nx ≤ nx' ∧ Kp (fun _ => False) nx H H') := by
  refine acalls_of_awp L22 Try.func22 rfl (by kernel_rfl) ?_
  simp (disch := omega) only [go_sem, ↓reduceIte ]
  exact ⟨Nat.le_refl _, Kp.refl _ _ _⟩
theorem nilDone {lo : Nat} {H : AH} {nx : Nat} : ACalls Try.prog lo 23 #[.pointer none] H nx (fun v H' nx' => v = .int .i64 0 ∧ nx ≤ nx' ∧ Kp (fun _ => False) nx H H') := by
  refine acalls_of_awp L23 Try.func23 rfl (by kernel_rfl) ?_
  simp (disch := omega) only [go_sem, ↓reduceIte ]
  exact ⟨Nat.le_refl _, Kp.refl _ _ _⟩
theorem nilMoves {lo : Nat} {H : AH} {nx : Nat} : ACalls Try.prog lo 24 #[.pointer none] H nx (fun v H' nx' => v = .int .i64 0 ∧ nx ≤ nx' ∧ Kp (fun _ => False) nx H H') := by
  refine acalls_of_awp L24 Try.func24 rfl (by kernel_rfl) ?_
  simp (disch := omega) only [go_sem, ↓reduceIte ]
  exact ⟨Nat.le_refl _, Kp.refl _ _ _⟩
theorem nilOn {lo : Nat} {H : AH} {nx : Nat} : ACalls Try.prog lo 25 #[.pointer none] H nx (fun v H' nx' => v = .bool false ∧ nx ≤ nx' ∧ Kp (fun _ => False) nx H H') := by
  refine acalls_of_awp L25 Try.func25 rfl (by kernel_rfl) ?_
  simp (disch := omega) only [go_sem, ↓reduceIte ]
  exact ⟨Nat.le_refl _, Kp.refl _ _ _⟩
structure RtI (s : ByteArray) (H0 : AH) (nx0 : Nat) (m : Nat) (env : Env) (H : AH) (nx i : Nat) : Prop where
  hm : m = s.size - i
  hi : i ≤ s.size
  henv : env = [(0, .string s), (3, .int .i64 i)]
  ok : ∀ j, j < i → okByte (s.get! j) = true
  hH : H = H0
  hx : nx = nx0

-- within simp the step over this skip is dear for the kernel (a hundred seconds); by rw it is not
attribute [-go_sem] awp_skip in
set_option maxRecDepth 20000 in
theorem right05_c {lo : Nat} {H : AH} {nx : Nat} (s : ByteArray) (hs : s.size ≤ 1000) : ACalls Try.prog lo 20 #[.string s] H nx (fun v H' nx' => v = .bool (nameOk s) ∧ nx ≤ nx' ∧ Kp (fun _ => False) nx H H') := by
  refine acalls_of_awp L20 Try.func20 rfl (by kernel_rfl) ?_
  simp (disch := omega) only [go_sem, ↓reduceIte ]
  refine awp_loopX (fun m env H1 nx1 => ∃ i, RtI s H nx m env H1 nx1 i) s.size ⟨0, ⟨rfl, by omega, rfl, by omega, rfl, rfl⟩⟩ (fun env H1 nx1 => ∃ i, env = [(0, .string s), (3, .int .i64 i), (7, .bool false)] ∧ allOk s = true ∧ H1 = H ∧ nx1 = nx) (fun K hK m env H1 nx1 ⟨i, hI⟩ hn => ?_) (fun env H1 nx1 ⟨i, henv, ha, hH, hx⟩ => ?_)
  obtain ⟨hm, hi, henv, hok, hH, hx⟩ := hI
  subst henv; subst hH; subst hx
  by_cases hlt : i < s.size
  · obtain ⟨c, hc⟩ : ∃ c : Int, ((s.data[i]!).toNat : Int) = c := ⟨_, rfl⟩
    have hget : okByte (s.get! i) = okR c := by
      unfold okByte
      rw [← hc]
      obtain ⟨a⟩ := s
      rfl
    have hnext : okR c = true → ∃ m', m' < m ∧ ∃ j, RtI s H1 nx1 m' [(0, .string s), (3, .int .i64 ((i : Int) + 1))] H1 nx1 j := fun h => by
      refine ⟨s.size - (i + 1), by omega, i + 1, ⟨rfl, by omega, by simp, fun j hj => ?_, rfl, rfl⟩⟩
      by_cases e : j = i
      · subst e; rw [hget]; exact h
      · exact hok j (by omega)
    have hbad : okR c = false → nameOk s = false := fun h => by
      unfold nameOk
      rw [allOk_false hlt (by rw [hget]; exact h)]
      simp
    by_cases h1 : 97 ≤ c ∧ c ≤ 122
    · obtain ⟨h1, h2⟩ := h1
      simp (disch := omega) only [go_sem, ↓reduceIte ]
      rw [awp_skip, thenQ_normal]
      simp (disch := omega) only [go_sem, ↓reduceIte , hc, h1, h2, decide_true]
      rw [awp_skip]
      simp (disch := omega) only [go_sem, ↓reduceIte ]
      exact hnext (by unfold okR; simp [h1, h2])
    · by_cases h3 : 48 ≤ c ∧ c ≤ 57
      · obtain ⟨h3, h4⟩ := h3
        have h1 : ¬ 97 ≤ c := by omega
        simp (disch := omega) only [go_sem, ↓reduceIte ]
        rw [awp_skip, thenQ_normal]
        simp (disch := omega) only [go_sem, ↓reduceIte , hc, h1, h3, h4, decide_true, decide_false]
        rw [awp_skip]
        simp (disch := omega) only [go_sem, ↓reduceIte ]
        exact hnext (by unfold okR; simp [h3, h4])
      · by_cases h5 : c = 46
        · subst h5
          simp (disch := omega) only [go_sem, ↓reduceIte ]
          rw [awp_skip, thenQ_normal]
          simp (disch := omega) only [go_sem, ↓reduceIte , hc, decide_true, decide_false]
          rw [awp_skip]
          simp (disch := omega) only [go_sem, ↓reduceIte ]
          exact hnext (by unfold okR; simp)
        · have hb := hbad (by unfold okR; simp only [Bool.or_eq_false_iff, Bool.and_eq_false_iff, decide_eq_false_iff_not]; omega)
          rw [hb]
          by_cases h1 : 97 ≤ c
          · have h2 : ¬ c ≤ 122 := by omega
            have h3 : 48 ≤ c := by omega
            have h4 : ¬ c ≤ 57 := by omega
            simp (disch := omega) only [go_sem, ↓reduceIte ]
            rw [awp_skip, thenQ_normal]
            simp (disch := omega) only [go_sem, ↓reduceIte , hc, h1, h2, h3, h4, h5, decide_true, decide_false]
            exact ⟨Nat.le_refl _, Kp.refl _ _ _⟩
          · by_cases h3 : 48 ≤ c
            · have h4 : ¬ c ≤ 57 := by omega
              simp (disch := omega) only [go_sem, ↓reduceIte ]
              rw [awp_skip, thenQ_normal]
              simp (disch := omega) only [go_sem, ↓reduceIte , hc, h1, h3, h4, h5, decide_true, decide_false]
              exact ⟨Nat.le_refl _, Kp.refl _ _ _⟩
            · simp (disch := omega) only [go_sem, ↓reduceIte ]
              rw [awp_skip, thenQ_normal]
              simp (disch := omega) only [go_sem, ↓reduceIte , hc, h1, h3, h5, decide_true, decide_false]
              exact ⟨Nat.le_refl _, Kp.refl _ _ _⟩
  · have ha : allOk s = true := allOk_true fun j hj => hok j (by omega)
    simp (disch := omega) only [go_sem, ↓reduceIte ]
    exact hK _ _ _ ⟨_, rfl, ha, rfl, rfl⟩
  · subst henv; subst hH; subst hx
    unfold nameOk
    rw [ha]
    by_cases h0 : 0 < s.size
    · by_cases h1 : s.size ≤ 32
      · simp (disch := omega) only [go_sem, ↓reduceIte , h0, h1, decide_true]
        exact ⟨Nat.le_refl _, Kp.refl _ _ _⟩
      · simp (disch := omega) only [go_sem, ↓reduceIte , h0, h1, decide_true, decide_false]
        exact ⟨Nat.le_refl _, Kp.refl _ _ _⟩
    · simp (disch := omega) only [go_sem, ↓reduceIte , h0, decide_false]
      exact ⟨Nat.le_refl _, Kp.refl _ _ _⟩
end Go.Proofs.Ytcdimjocdpogjaa
