/- ShelfSafe returns true whatever the bytes, the acts and the two numbers it is given, never panics, and leaves its arguments as they were. Conditions: none. -/
import Derived.Test.YtcdimjocdpogjaaRows
import Derived.Test.YtcdimjocdpogjaaY44
namespace Go.Proofs.Ytcdimjocdpogjaa
open Go.ChangeShapes Go.WideShapes Go.ChangeAt Go.RowKit

theorem Try.own : ownKnob Try.prog.godebug = none := by kernel_rfl
theorem Try.laidOut : laidOutB Try.prog = true := by kernel_rfl

set_option maxRecDepth 100000 in
theorem shelfSafe_lifted (os : Os) (started : os.Started) (H : Type) (enc : TypeId × Value → H) :
    ReturnsInHanded {} Try.checked os 6 .any (Rows.shelfSafeSpec.pre6 enc Try.prog Try.f6 Rows.shelfSafeRow.domain false) (Rows.shelfSafeSpec.post enc Try.prog Try.f6 false true false false) := by
  refine returnsInHanded_of_change (C := Try.checked) Try.own started (by kernel_rfl) Try.func6
    (ChangeSpec.witness6 (enc := enc) (C := Try.checked) false ⟨#[], #[.slice none 0 0, .slice none 0 0, .int .i64 0, .int .i64 0], []⟩ 8 (by kernel_rfl) (by kernel_rfl) (by kernel_rfl) (by kernel_rfl)) ?_
  intro W base args ds gs before hval0 hW hcnd _
  have hval : ∀ (j : Nat) t v, Try.f6.params[j]? = some t → args[j]? = some v → Value.okWide Try.prog W .any base t v := hval0
  have hW' := hW
  obtain ⟨p, q, hA0, hV, rfl, hfz, hnd⟩ := hW
  have hA : DataW.TrodAll enc Try.prog W 0 (fun _ => true) true Try.f6.params.toList args.toList ds p := hA0
  rw [Try.params6] at hA hval
  obtain ⟨v0, v1, v2, v3, d0, d1, d2, d3, p0, p1, p2, p3, rfl, rfl, rfl, h0, h1, h2, h3⟩ := trodAll_four' hA
  obtain ⟨ls0, own0, hl0, hs0⟩ := open_flat Try.underlying22 (ks := [some .u8]) (by kernel_rfl) (hval 0 22 v0 rfl rfl) h0
  obtain ⟨ps, hb1, hb2, hb3⟩ := bytes_of5 ls0 hl0
  rw [hb2, ← hb1] at hs0
  obtain ⟨ls1, own1, hl1, hs1⟩ := open_gen (k := 5) (fit := fitAc W.heap.size (AH.ofWorld W)) Try.underlying42 (by kernel_rfl) (fun l ⟨a, e, _⟩ => by rw [e]; rfl) (fun fuel cs x hx => fit_ac Try.underlying50 (by kernel_rfl) Try.underlying5 Try.underlying3 Try.underlying22 (by kernel_rfl) (by kernel_rfl) (by kernel_rfl) ⟨rfl, rfl⟩ ⟨rfl, rfl⟩ ⟨rfl, rfl⟩ ⟨rfl, rfl⟩ ⟨rfl, rfl⟩ hx) (hval 1 42 v1 rfl rfl) h1
  obtain ⟨acts, ha1, ha2, ha3⟩ := ac5_of ls1 hl1
  rw [ha2, ← ha1] at hs1
  obtain ⟨n, rfl, rfl, rfl, w2⟩ := open_int Try.underlying3 (hval 2 3 v2 rfl rfl) h2
  obtain ⟨m, rfl, rfl, rfl, w3⟩ := open_int Try.underlying3 (hval 3 3 v3 rfl rfl) h3
  refine (shelfSafe_c (lo := W.heap.size) hs0 hs1 ha3 W (Rel.ofWorld W)).mono fun e W' ⟨v, H', nx', he, ⟨hv, _, _⟩, _, hb, _⟩ => ?_
  subst he; subst hv
  exact ⟨_, rfl, law_post Try.laidOut (by kernel_rfl) (by kernel_rfl) Try.underlying4 rfl hW' (fun hg => by subst hg; rfl) hb.toBelow⟩

theorem shelfSafe_holds : Rows.ShelfSafeSaid :=
  OpenClaim.holds_of_wide 6 Try.f6 rfl rfl rfl rfl rfl rfl rfl ⟨rfl, rfl, rfl, rfl, rfl⟩ rfl rfl rfl rfl rfl (by kernel_rfl) Try.func6 (by kernel_rfl)
    (of_decide_eq_true (by kernel_rfl)) (by unfold Func.isWrapper; first | (rw [if_pos (by decide +kernel)]; kernel_rfl) | (rw [if_neg (by decide +kernel)]; exact ⟨rfl, rfl⟩))
    (fun os started H enc _ => shelfSafe_lifted os started H enc)

end Go.Proofs.Ytcdimjocdpogjaa
