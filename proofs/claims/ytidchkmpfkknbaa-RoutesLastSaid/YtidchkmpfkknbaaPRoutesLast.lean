/- RoutesLast returns true whatever the numbers and the mark it is given, never panics, and leaves its arguments as they were. Conditions: none. -/
import Derived.Test.YtidchkmpfkknbaaRows
import Derived.Test.YtidchkmpfkknbaaR11
import Derived.Test.YtidchkmpfkknbaaP2
namespace Go.Proofs.Ytidchkmpfkknbaa
open Go.ChangeShapes Go.WideShapes Go.ChangeAt Go.RowKit

theorem Try.own : ownKnob Try.prog.godebug = none := by kernel_rfl
theorem Try.laidOut : laidOutB Try.prog = true := by kernel_rfl

theorem agg_of_cells {v : Value} {xs : List Value} (h : v.cells.toList = xs) (hl : xs.length ≠ 1) : v = .agg xs.toArray := by
  cases v <;> first
    | (rw [← h]; rfl)
    | (exfalso; apply hl; rw [← h]; rfl)

/-- A mark that came in. -/
theorem open_mark {H : Type} {enc : TypeId × Value → H} {W : World} {v : Value} {d : DataW H} {ps : List MemPlace} (h : DataW.Trod enc Try.prog W 0 (fun _ => true) true 24 v d ps) :
    ∃ s m : Int, v = .agg #[.int .u16 s, .int .u16 m] := by
  obtain ⟨fuel, h⟩ := h
  have hf := trod_flat 8 24 [some .u16, some .u16] fuel _ _ (by kernel_rfl) (by kernel_rfl) h
  obtain ⟨s, w, h1, _, m, w', h2, _, h3⟩ := hf
  simp only [fitW] at h3
  subst h3; subst h2
  exact ⟨s, m, agg_of_cells h1 (by simp)⟩

set_option maxRecDepth 100000 in
theorem routesLast_lifted (os : Os) (started : os.Started) (H : Type) (enc : TypeId × Value → H) :
    ReturnsInHanded {} Try.checked os 3 .any (Rows.routesLastSpec.pre6 enc Try.prog Try.f3 Rows.routesLastRow.domain false) (Rows.routesLastSpec.post enc Try.prog Try.f3 false true false false) := by
  refine returnsInHanded_of_change (C := Try.checked) Try.own started (by kernel_rfl) Try.func3
    (ChangeSpec.witness6 (enc := enc) (C := Try.checked) false ⟨#[], #[.int .u8 0, .int .u8 0, .agg #[.int .u16 0, .int .u16 0], .int .u8 0], []⟩ 8 (by kernel_rfl) (by kernel_rfl) (by kernel_rfl) (by kernel_rfl)) ?_
  intro W base args ds gs before hval0 hW hcnd _
  have hval : ∀ (j : Nat) t v, Try.f3.params[j]? = some t → args[j]? = some v → Value.okWide Try.prog W .any base t v := hval0
  have hW' := hW
  obtain ⟨p, q, hA0, hV, rfl, hfz, hnd⟩ := hW
  have hA : DataW.TrodAll enc Try.prog W 0 (fun _ => true) true Try.f3.params.toList args.toList ds p := hA0
  rw [Try.params3] at hA hval
  obtain ⟨v0, v1, v2, v3, d0, d1, d2, d3, p0, p1, p2, p3, rfl, rfl, rfl, h0, h1, h2, h3⟩ := trodAll_four' hA
  obtain ⟨a, rfl, rfl, rfl, w0⟩ := open_int Try.underlying5 (hval 0 5 v0 rfl rfl) h0
  obtain ⟨b, rfl, rfl, rfl, w1⟩ := open_int Try.underlying5 (hval 1 5 v1 rfl rfl) h1
  obtain ⟨s, m, rfl⟩ := open_mark h2
  obtain ⟨c, rfl, rfl, rfl, w3⟩ := open_int Try.underlying5 (hval 3 5 v3 rfl rfl) h3
  simp only [Lit.wf, Bool.and_eq_true, decide_eq_true_eq] at w0 w1 w3
  refine (routesLast_c (lo := W.heap.size) (H := AH.empty) (nx := W.heap.size) a b s m c w0.1 w1.1 w1.2 w3.1 W (Rel.nothing W)).mono fun e W' ⟨v, H', nx', he, ⟨hv, _, _⟩, _, hb, _⟩ => ?_
  subst he; subst hv
  exact ⟨_, rfl, law_post Try.laidOut (by kernel_rfl) (by kernel_rfl) Try.underlying4 rfl hW' (fun hg => by subst hg; rfl) hb.toBelow⟩

theorem routesLast_holds : Rows.RoutesLastSaid :=
  OpenClaim.holds_of_wide 3 Try.f3 rfl rfl rfl rfl rfl rfl rfl ⟨rfl, rfl, rfl, rfl, rfl⟩ rfl rfl rfl rfl rfl (by kernel_rfl) Try.func3 (by kernel_rfl)
    (of_decide_eq_true (by kernel_rfl)) (by unfold Func.isWrapper; first | (rw [if_pos (by decide +kernel)]; kernel_rfl) | (rw [if_neg (by decide +kernel)]; exact ⟨rfl, rfl⟩))
    (fun os started H enc _ => routesLast_lifted os started H enc)

end Go.Proofs.Ytidchkmpfkknbaa
