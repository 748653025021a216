/- RoutesTell at any acts. -/
import Derived.Test.YtgopmklcggoliaaT8
namespace Go.Proofs.Ytgopmklcggoliaa
open Go.RowKit
set_option linter.unusedSimpArgs false

theorem routesTell_much {lo : Nat} {H : AH} {nx : Nat} {v : Value} {acts : List Act16} {owna : Nat} (hs : SlA nx H 5 v acts.length (a16Cells acts) owna) (hl : 80 < acts.length) :
    ACalls Try.prog lo 3 #[v] H nx (fun v H' nx' => v = .bool true ∧ nx ≤ nx' ∧ Kp (fun _ => False) nx H H') := by
  refine ACalls.withLo fun hlo => ?_
  refine acalls_of_awp L3 Try.func3 rfl (by kernel_rfl) ?_
  obtain ⟨sa, sc, rfl⟩ := hs.form
  simp (disch := omega) only [go_sem, ↓reduceIte ]
  refine awake16_c.mono fun v H1 nx1 _ ⟨hv, hx1, hk1⟩ => ?_
  subst hv
  simp (disch := omega) only [go_sem, ↓reduceIte ]
  refine awake16_c.mono fun v H2 nx2 _ ⟨hv, hx2, hk2⟩ => ?_
  subst hv
  simp (disch := omega) only [go_sem, ↓reduceIte ]
  exact ⟨by omega, (by repeat first | exact Kp.refl _ _ _ | refine Kp.dropT ?_ (.inl (by omega)) | refine Kp.put ?_ (.inl (by omega)) | refine Kp.new ?_ (by omega) | refine Kp.put ?_ (.inr (by omega)) | refine Kp.trans0 ?_ (by assumption) (by omega) | refine Kp.transS ?_ (by assumption) (by omega) (fun b hb hT => by first | omega | (dsimp only at hT ⊢; omega) | (simp only at hT ⊢; omega))) ⟩

theorem routesTell_all {lo : Nat} {H : AH} {nx : Nat} {v : Value} {acts : List Act16} {owna : Nat} (hs : SlA nx H 5 v acts.length (a16Cells acts) owna) (hok : ∀ a ∈ acts, Act16Ok a) :
    ACalls Try.prog lo 3 #[v] H nx (fun v H' nx' => v = .bool true ∧ nx ≤ nx' ∧ Kp (fun _ => False) nx H H') := by
  by_cases h : 80 < acts.length
  · exact routesTell_much hs h
  · exact routesTell_c hs hok (by omega)
end Go.Proofs.Ytgopmklcggoliaa
