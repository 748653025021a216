/- RoutesTell returns true whatever the acts it is given, never panics, and leaves its argument as it was. Conditions: none. -/
import Derived.Test.YtgopmklcggoliaaRows
import Derived.Test.YtgopmklcggoliaaT9
import Derived.Test.YtgopmklcggoliaaP4
namespace Go.Proofs.Ytgopmklcggoliaa
open Go.ChangeShapes Go.WideShapes Go.ChangeAt Go.RowKit

theorem Try.own : ownKnob Try.prog.godebug = none := by kernel_rfl
theorem Try.laidOut : laidOutB Try.prog = true := by kernel_rfl

set_option maxRecDepth 100000 in
theorem routesTell_lifted (os : Os) (started : os.Started) (H : Type) (enc : TypeId × Value → H) :
    ReturnsInHanded {} Try.checked os 3 .any (Rows.routesTellSpec.pre6 enc Try.prog Try.f3 Rows.routesTellRow.domain false) (Rows.routesTellSpec.post enc Try.prog Try.f3 false true false false) := by
  refine returnsInHanded_of_change (C := Try.checked) Try.own started (by kernel_rfl) Try.func3
    (ChangeSpec.witness6 (enc := enc) (C := Try.checked) false ⟨#[], #[.slice none 0 0], []⟩ 8 (by kernel_rfl) (by kernel_rfl) (by kernel_rfl) (by kernel_rfl)) ?_
  intro W base args ds gs before hval0 hW hcnd _
  have hval : ∀ (j : Nat) t v, Try.f3.params[j]? = some t → args[j]? = some v → Value.okWide Try.prog W .any base t v := hval0
  have hW' := hW
  obtain ⟨p, q, hA0, hV, rfl, hfz, hnd⟩ := hW
  have hA : DataW.TrodAll enc Try.prog W 0 (fun _ => true) true Try.f3.params.toList args.toList ds p := hA0
  rw [Try.params3] at hA hval
  obtain ⟨v0, d0, p0, rfl, rfl, rfl, h0⟩ := trodAll_one' hA
  obtain ⟨ls0, own0, hl0, hs0⟩ := open_flat Try.underlying22 (ks := [some .u8, some .u8, some .u8, some .u8, some .u16]) (by kernel_rfl) (hval 0 22 v0 rfl rfl) h0
  obtain ⟨acts, ha1, ha2, ha3⟩ := a16_of ls0 hl0
  rw [ha2, ← ha1] at hs0
  refine (routesTell_all (lo := W.heap.size) hs0 ha3 W (Rel.ofWorld W)).mono fun e W' ⟨v, H', nx', he, ⟨hv, _, _⟩, _, hb, _⟩ => ?_
  subst he; subst hv
  exact ⟨_, rfl, law_post Try.laidOut (by kernel_rfl) (by kernel_rfl) Try.underlying4 rfl hW' (fun hg => by subst hg; rfl) hb.toBelow⟩

theorem routesTell_holds : Rows.RoutesTellSaid :=
  OpenClaim.holds_of_wide 3 Try.f3 rfl rfl rfl rfl rfl rfl rfl ⟨rfl, rfl, rfl, rfl, rfl⟩ rfl rfl rfl rfl rfl (by kernel_rfl) Try.func3 (by kernel_rfl)
    (of_decide_eq_true (by kernel_rfl)) (by unfold Func.isWrapper; first | (rw [if_pos (by decide +kernel)]; kernel_rfl) | (rw [if_neg (by decide +kernel)]; exact ⟨rfl, rfl⟩))
    (fun os started H enc _ => routesTell_lifted os started H enc)

end Go.Proofs.Ytgopmklcggoliaa
