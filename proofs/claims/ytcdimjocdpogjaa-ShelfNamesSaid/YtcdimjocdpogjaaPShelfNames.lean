/- ShelfNames returns true whatever the string, the byte slice and the number it is given, never panics, and leaves its arguments as they were. Conditions: none. -/
import Derived.Test.YtcdimjocdpogjaaY6
import Derived.Test.YtcdimjocdpogjaaRows
import Derived.Test.YtcdimjocdpogjaaP5
section
namespace Go.Proofs.Ytcdimjocdpogjaa
open Go.RowKit
set_option linter.unusedSimpArgs false

theorem shelfNames_much {lo : Nat} {H : AH} {nx : Nat} {t : ByteArray} {vp : Value} {ps : List Int} {ownp : Nat} (hp : SlA nx H 1 vp ps.length (bytV ps) ownp) (hl : 60 < t.size ∨ ps.length = 0 ∨ 60 < ps.length) (n : Int) :
    ACalls Try.prog lo 5 #[.string t, vp, .int .i64 n] H nx (fun v H' nx' => v = .bool true ∧ nx ≤ nx' ∧ Kp (fun _ => False) nx H H') := by
  refine ACalls.withLo fun hlo => ?_
  refine acalls_of_awp L5 Try.func5 rfl (by kernel_rfl) ?_
  obtain ⟨pa, pc, rfl⟩ := hp.form
  by_cases h1 : 60 < t.size
  · simp (disch := omega) only [go_sem, ↓reduceIte ]
    refine awake05_c.mono fun v H1 nx1 _ ⟨hv, hx1, hk1⟩ => ?_
    subst hv
    simp (disch := omega) only [go_sem, ↓reduceIte ]
    refine awake05_c.mono fun v H2 nx2 _ ⟨hv, hx2, hk2⟩ => ?_
    subst hv
    simp (disch := omega) only [go_sem, ↓reduceIte ]
    exact ⟨by omega, (by repeat first | exact Kp.refl _ _ _ | refine Kp.dropT ?_ (.inl (by omega)) | refine Kp.put ?_ (.inl (by omega)) | refine Kp.new ?_ (by omega) | refine Kp.put ?_ (.inr (by omega)) | refine Kp.newO ?_ (by omega) | refine Kp.setO ?_ (.inl (by omega)) | refine Kp.setO ?_ (.inr (by omega)) | refine Kp.trans0 ?_ (by assumption) (by omega) | refine Kp.transS ?_ (by assumption) (by omega) (fun b hb hT => by first | omega | (dsimp only at hT ⊢; omega) | (simp only at hT ⊢; omega))) ⟩
  · by_cases h2 : ps.length = 0
    · simp (disch := omega) only [go_sem, ↓reduceIte ]
      refine awake05_c.mono fun v H1 nx1 _ ⟨hv, hx1, hk1⟩ => ?_
      subst hv
      simp (disch := omega) only [go_sem, ↓reduceIte , h2, decide_true]
      refine awake05_c.mono fun v H2 nx2 _ ⟨hv, hx2, hk2⟩ => ?_
      subst hv
      simp (disch := omega) only [go_sem, ↓reduceIte ]
      exact ⟨by omega, (by repeat first | exact Kp.refl _ _ _ | refine Kp.dropT ?_ (.inl (by omega)) | refine Kp.put ?_ (.inl (by omega)) | refine Kp.new ?_ (by omega) | refine Kp.put ?_ (.inr (by omega)) | refine Kp.newO ?_ (by omega) | refine Kp.setO ?_ (.inl (by omega)) | refine Kp.setO ?_ (.inr (by omega)) | refine Kp.trans0 ?_ (by assumption) (by omega) | refine Kp.transS ?_ (by assumption) (by omega) (fun b hb hT => by first | omega | (dsimp only at hT ⊢; omega) | (simp only at hT ⊢; omega))) ⟩
    · simp (disch := omega) only [go_sem, ↓reduceIte ]
      refine awake05_c.mono fun v H1 nx1 _ ⟨hv, hx1, hk1⟩ => ?_
      subst hv
      simp (disch := omega) only [go_sem, ↓reduceIte ]
      refine awake05_c.mono fun v H2 nx2 _ ⟨hv, hx2, hk2⟩ => ?_
      subst hv
      simp (disch := omega) only [go_sem, ↓reduceIte ]
      exact ⟨by omega, (by repeat first | exact Kp.refl _ _ _ | refine Kp.dropT ?_ (.inl (by omega)) | refine Kp.put ?_ (.inl (by omega)) | refine Kp.new ?_ (by omega) | refine Kp.put ?_ (.inr (by omega)) | refine Kp.newO ?_ (by omega) | refine Kp.setO ?_ (.inl (by omega)) | refine Kp.setO ?_ (.inr (by omega)) | refine Kp.trans0 ?_ (by assumption) (by omega) | refine Kp.transS ?_ (by assumption) (by omega) (fun b hb hT => by first | omega | (dsimp only at hT ⊢; omega) | (simp only at hT ⊢; omega))) ⟩

theorem shelfNames_all {lo : Nat} {H : AH} {nx : Nat} {t : ByteArray} {vp : Value} {ps : List Int} {ownp : Nat} (hp : SlA nx H 1 vp ps.length (bytV ps) ownp) (n : Int) :
    ACalls Try.prog lo 5 #[.string t, vp, .int .i64 n] H nx (fun v H' nx' => v = .bool true ∧ nx ≤ nx' ∧ Kp (fun _ => False) nx H H') := by
  by_cases h : 60 < t.size ∨ ps.length = 0 ∨ 60 < ps.length
  · exact shelfNames_much hp h n
  · exact shelfNames_c hp (by omega) (by omega) (by omega) n
end Go.Proofs.Ytcdimjocdpogjaa
end
section
namespace Go.Proofs.Ytcdimjocdpogjaa
open Go.ChangeShapes Go.WideShapes Go.ChangeAt Go.RowKit

theorem Try.own : ownKnob Try.prog.godebug = none := by kernel_rfl
theorem Try.laidOut : laidOutB Try.prog = true := by kernel_rfl

set_option maxRecDepth 100000 in
theorem shelfNames_lifted (os : Os) (started : os.Started) (H : Type) (enc : TypeId × Value → H) :
    ReturnsInHanded {} Try.checked os 5 .any (Rows.shelfNamesSpec.pre6 enc Try.prog Try.f5 Rows.shelfNamesRow.domain false) (Rows.shelfNamesSpec.post enc Try.prog Try.f5 false true false false) := by
  refine returnsInHanded_of_change (C := Try.checked) Try.own started (by kernel_rfl) Try.func5
    (ChangeSpec.witness6 (enc := enc) (C := Try.checked) false ⟨#[], #[.string .empty, .slice none 0 0, .int .i64 0], []⟩ 8 (by kernel_rfl) (by kernel_rfl) (by kernel_rfl) (by kernel_rfl)) ?_
  intro W base args ds gs before hval0 hW hcnd _
  have hval : ∀ (j : Nat) t v, Try.f5.params[j]? = some t → args[j]? = some v → Value.okWide Try.prog W .any base t v := hval0
  have hW' := hW
  obtain ⟨p, q, hA0, hV, rfl, hfz, hnd⟩ := hW
  have hA : DataW.TrodAll enc Try.prog W 0 (fun _ => true) true Try.f5.params.toList args.toList ds p := hA0
  rw [Try.params5] at hA hval
  obtain ⟨v0, v1, v2, d0, d1, d2, p0, p1, p2, rfl, rfl, rfl, h0, h1, h2⟩ := trodAll_three hA
  obtain ⟨t, rfl⟩ := okWide_string Try.underlying9 (hval 0 9 v0 rfl rfl)
  obtain ⟨ls1, own1, hl1, hs1⟩ := open_flat Try.underlying22 (ks := [some .u8]) (by kernel_rfl) (hval 1 22 v1 rfl rfl) h1
  obtain ⟨ps, hb1, hb2, hb3⟩ := bytes_of5 ls1 hl1
  rw [hb2, ← hb1] at hs1
  obtain ⟨n, rfl, rfl, rfl, w2⟩ := open_int Try.underlying3 (hval 2 3 v2 rfl rfl) h2
  refine (shelfNames_all (lo := W.heap.size) hs1 n W (Rel.ofWorld W)).mono fun e W' ⟨v, H', nx', he, ⟨hv, _, _⟩, _, hb, _⟩ => ?_
  subst he; subst hv
  exact ⟨_, rfl, law_post Try.laidOut (by kernel_rfl) (by kernel_rfl) Try.underlying4 rfl hW' (fun hg => by subst hg; rfl) hb.toBelow⟩

theorem shelfNames_holds : Rows.ShelfNamesSaid :=
  OpenClaim.holds_of_wide 5 Try.f5 rfl rfl rfl rfl rfl rfl rfl ⟨rfl, rfl, rfl, rfl, rfl⟩ rfl rfl rfl rfl rfl (by kernel_rfl) Try.func5 (by kernel_rfl)
    (of_decide_eq_true (by kernel_rfl)) (by unfold Func.isWrapper; first | (rw [if_pos (by decide +kernel)]; kernel_rfl) | (rw [if_neg (by decide +kernel)]; exact ⟨rfl, rfl⟩))
    (fun os started H enc _ => shelfNames_lifted os started H enc)

end Go.Proofs.Ytcdimjocdpogjaa
end
