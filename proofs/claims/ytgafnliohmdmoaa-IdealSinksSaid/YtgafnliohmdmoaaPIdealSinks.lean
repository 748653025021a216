/- IdealSinks returns true whatever the two slices it is given, never panics, and leaves its arguments as they were. Conditions: none. -/
import Derived.Test.YtgafnliohmdmoaaRows
import Derived.Test.YtgafnliohmdmoaaH7
import Derived.Test.YtgafnliohmdmoaaP3
namespace Go.Proofs.Ytgafnliohmdmoaa
open Go.ChangeShapes Go.WideShapes Go.ChangeAt Go.RowKit

theorem Try.own : ownKnob Try.prog.godebug = none := by kernel_rfl
theorem Try.laidOut : laidOutB Try.prog = true := by kernel_rfl

set_option maxRecDepth 100000 in
theorem idealSinks_lifted (os : Os) (started : os.Started) (H : Type) (enc : TypeId × Value → H) :
    ReturnsInHanded {} Try.checked os 3 .any (Rows.idealSinksSpec.pre6 enc Try.prog Try.f3 Rows.idealSinksRow.domain false) (Rows.idealSinksSpec.post enc Try.prog Try.f3 false true false false) := by
  refine returnsInHanded_of_change (C := Try.checked) Try.own started (by kernel_rfl) Try.func3
    (ChangeSpec.witness6 (enc := enc) (C := Try.checked) false ⟨#[], #[.slice none 0 0, .slice none 0 0], []⟩ 8 (by kernel_rfl) (by kernel_rfl) (by kernel_rfl) (by kernel_rfl)) ?_
  intro W base args ds gs before hval0 hW hcnd _
  have hval : ∀ (j : Nat) t v, Try.f3.params[j]? = some t → args[j]? = some v → Value.okWide Try.prog W .any base t v := hval0
  have hW' := hW
  obtain ⟨p, q, hA0, hV, rfl, hfz, hnd⟩ := hW
  have hA : DataW.TrodAll enc Try.prog W 0 (fun _ => true) true Try.f3.params.toList args.toList ds p := hA0
  rw [Try.params3] at hA hval
  obtain ⟨v0, v1, d0, d1, p0, p1, rfl, rfl, rfl, h0, h1⟩ := trodAll_two hA
  obtain ⟨ls0, own0, hl0, hs0⟩ := open_flat Try.underlying22 (ks := [some .u8, some .u8, some .u8, some .u8, some .u8]) (by kernel_rfl) (hval 0 22 v0 rfl rfl) h0
  obtain ⟨acts, ha1, ha2, ha3⟩ := acts_of ls0 hl0
  rw [ha2, ← ha1] at hs0
  obtain ⟨ls1, own1, hl1, hs1⟩ := open_flat Try.underlying23 (ks := [some .u8]) (by kernel_rfl) (hval 1 23 v1 rfl rfl) h1
  obtain ⟨xs, hb1, hb2, hb3⟩ := bytes_of5 ls1 hl1
  rw [hb2, ← hb1] at hs1
  refine (idealSinks_c (lo := W.heap.size) hs0 ha3 hs1 hb3 W (Rel.ofWorld W)).mono fun e W' ⟨v, H', nx', he, ⟨hv, _, _⟩, _, hb, _⟩ => ?_
  subst he; subst hv
  exact ⟨_, rfl, law_post Try.laidOut (by kernel_rfl) (by kernel_rfl) Try.underlying4 rfl hW' (fun hg => by subst hg; rfl) hb.toBelow⟩

theorem idealSinks_holds : Rows.IdealSinksSaid :=
  OpenClaim.holds_of_wide 3 Try.f3 rfl rfl rfl rfl rfl rfl rfl ⟨rfl, rfl, rfl, rfl, rfl⟩ rfl rfl rfl rfl rfl (by kernel_rfl) Try.func3 (by kernel_rfl)
    (of_decide_eq_true (by kernel_rfl)) (by unfold Func.isWrapper; first | (rw [if_pos (by decide +kernel)]; kernel_rfl) | (rw [if_neg (by decide +kernel)]; exact ⟨rfl, rfl⟩))
    (fun os started H enc _ => idealSinks_lifted os started H enc)

end Go.Proofs.Ytgafnliohmdmoaa
