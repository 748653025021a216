/- RoutesBlocked returns true whatever the acts and the marks it is given, never panics, and leaves its arguments as they were. Conditions: none. -/
import Derived.Test.YtgopmklcggoliaaX3
import Derived.Test.YtgopmklcggoliaaRows
import Derived.Test.YtgopmklcggoliaaP4
section
namespace Go.Proofs.Ytgopmklcggoliaa
open Go.RowKit
set_option linter.unusedSimpArgs false

theorem routesBlocked_much {lo : Nat} {H : AH} {nx : Nat} {v w : Value} {acts marks : List Act16} {owna ownm : Nat} (hs : SlA nx H 5 v acts.length (a16Cells acts) owna) (hsm : SlA nx H 5 w marks.length (a16Cells marks) ownm) (hl : 80 < acts.length ∨ 30 < marks.length) :
    ACalls Try.prog lo 6 #[v, w] H nx (fun v H' nx' => v = .bool true ∧ nx ≤ nx' ∧ Kp (fun _ => False) nx H H') := by
  refine ACalls.withLo fun hlo => ?_
  refine acalls_of_awp L6 Try.func6 rfl (by kernel_rfl) ?_
  obtain ⟨sa, sc, rfl⟩ := hs.form
  obtain ⟨ma, mc, rfl⟩ := hsm.form
  by_cases h1 : 80 < acts.length
  · simp (disch := omega) only [go_sem, ↓reduceIte ]
    refine awake16_c.mono fun v H1 nx1 _ ⟨hv, hx1, hk1⟩ => ?_
    subst hv
    simp (disch := omega) only [go_sem, ↓reduceIte ]
    refine awake16_c.mono fun v H2 nx2 _ ⟨hv, hx2, hk2⟩ => ?_
    subst hv
    simp (disch := omega) only [go_sem, ↓reduceIte ]
    exact ⟨by omega, (by repeat first | exact Kp.refl _ _ _ | refine Kp.dropT ?_ (.inl (by omega)) | refine Kp.put ?_ (.inl (by omega)) | refine Kp.new ?_ (by omega) | refine Kp.put ?_ (.inr (by omega)) | refine Kp.newO ?_ (by omega) | refine Kp.setO ?_ (.inl (by omega)) | refine Kp.setO ?_ (.inr (by omega)) | refine Kp.trans0 ?_ (by assumption) (by omega) | refine Kp.transS ?_ (by assumption) (by omega) (fun b hb hT => by first | omega | (dsimp only at hT ⊢; omega) | (simp only at hT ⊢; omega))) ⟩
  · simp (disch := omega) only [go_sem, ↓reduceIte ]
    refine awake16_c.mono fun v H1 nx1 _ ⟨hv, hx1, hk1⟩ => ?_
    subst hv
    simp (disch := omega) only [go_sem, ↓reduceIte ]
    refine awake16_c.mono fun v H2 nx2 _ ⟨hv, hx2, hk2⟩ => ?_
    subst hv
    simp (disch := omega) only [go_sem, ↓reduceIte ]
    exact ⟨by omega, (by repeat first | exact Kp.refl _ _ _ | refine Kp.dropT ?_ (.inl (by omega)) | refine Kp.put ?_ (.inl (by omega)) | refine Kp.new ?_ (by omega) | refine Kp.put ?_ (.inr (by omega)) | refine Kp.newO ?_ (by omega) | refine Kp.setO ?_ (.inl (by omega)) | refine Kp.setO ?_ (.inr (by omega)) | refine Kp.trans0 ?_ (by assumption) (by omega) | refine Kp.transS ?_ (by assumption) (by omega) (fun b hb hT => by first | omega | (dsimp only at hT ⊢; omega) | (simp only at hT ⊢; omega))) ⟩

theorem routesBlocked_all {lo : Nat} {H : AH} {nx : Nat} {v w : Value} {acts marks : List Act16} {owna ownm : Nat} (hs : SlA nx H 5 v acts.length (a16Cells acts) owna) (hok : ∀ a ∈ acts, Act16Ok a) (hsm : SlA nx H 5 w marks.length (a16Cells marks) ownm) (hokm : ∀ a ∈ marks, Act16Ok a) :
    ACalls Try.prog lo 6 #[v, w] H nx (fun v H' nx' => v = .bool true ∧ nx ≤ nx' ∧ Kp (fun _ => False) nx H H') := by
  by_cases h : 80 < acts.length ∨ 30 < marks.length
  · exact routesBlocked_much hs hsm h
  · exact routesBlocked_c hs hok (by omega) hsm hokm (by omega)
end Go.Proofs.Ytgopmklcggoliaa
end
section
namespace Go.Proofs.Ytgopmklcggoliaa
open Go.ChangeShapes Go.WideShapes Go.ChangeAt Go.RowKit

theorem Try.own : ownKnob Try.prog.godebug = none := by kernel_rfl
theorem Try.laidOut : laidOutB Try.prog = true := by kernel_rfl

set_option maxRecDepth 100000 in
theorem routesBlocked_lifted (os : Os) (started : os.Started) (H : Type) (enc : TypeId × Value → H) :
    ReturnsInHanded {} Try.checked os 6 .any (Rows.routesBlockedSpec.pre6 enc Try.prog Try.f6 Rows.routesBlockedRow.domain false) (Rows.routesBlockedSpec.post enc Try.prog Try.f6 false true false false) := by
  refine returnsInHanded_of_change (C := Try.checked) Try.own started (by kernel_rfl) Try.func6
    (ChangeSpec.witness6 (enc := enc) (C := Try.checked) false ⟨#[], #[.slice none 0 0, .slice none 0 0], []⟩ 8 (by kernel_rfl) (by kernel_rfl) (by kernel_rfl) (by kernel_rfl)) ?_
  intro W base args ds gs before hval0 hW hcnd _
  have hval : ∀ (j : Nat) t v, Try.f6.params[j]? = some t → args[j]? = some v → Value.okWide Try.prog W .any base t v := hval0
  have hW' := hW
  obtain ⟨p, q, hA0, hV, rfl, hfz, hnd⟩ := hW
  have hA : DataW.TrodAll enc Try.prog W 0 (fun _ => true) true Try.f6.params.toList args.toList ds p := hA0
  rw [Try.params6] at hA hval
  obtain ⟨v0, v1, d0, d1, p0, p1, rfl, rfl, rfl, h0, h1⟩ := trodAll_two' hA
  obtain ⟨ls0, own0, hl0, hs0⟩ := open_flat Try.underlying22 (ks := [some .u8, some .u8, some .u8, some .u8, some .u16]) (by kernel_rfl) (hval 0 22 v0 rfl rfl) h0
  obtain ⟨acts, ha1, ha2, ha3⟩ := a16_of ls0 hl0
  rw [ha2, ← ha1] at hs0
  obtain ⟨ls1, own1, hl1, hs1⟩ := open_flat Try.underlying22 (ks := [some .u8, some .u8, some .u8, some .u8, some .u16]) (by kernel_rfl) (hval 1 22 v1 rfl rfl) h1
  obtain ⟨marks, hb1, hb2, hb3⟩ := a16_of ls1 hl1
  rw [hb2, ← hb1] at hs1
  refine (routesBlocked_all (lo := W.heap.size) hs0 ha3 hs1 hb3 W (Rel.ofWorld W)).mono fun e W' ⟨v, H', nx', he, ⟨hv, _, _⟩, _, hb, _⟩ => ?_
  subst he; subst hv
  exact ⟨_, rfl, law_post Try.laidOut (by kernel_rfl) (by kernel_rfl) Try.underlying4 rfl hW' (fun hg => by subst hg; rfl) hb.toBelow⟩

theorem routesBlocked_holds : Rows.RoutesBlockedSaid :=
  OpenClaim.holds_of_wide 6 Try.f6 rfl rfl rfl rfl rfl rfl rfl ⟨rfl, rfl, rfl, rfl, rfl⟩ rfl rfl rfl rfl rfl (by kernel_rfl) Try.func6 (by kernel_rfl)
    (of_decide_eq_true (by kernel_rfl)) (by unfold Func.isWrapper; first | (rw [if_pos (by decide +kernel)]; kernel_rfl) | (rw [if_neg (by decide +kernel)]; exact ⟨rfl, rfl⟩))
    (fun os started H enc _ => routesBlocked_lifted os started H enc)

end Go.Proofs.Ytgopmklcggoliaa
end
