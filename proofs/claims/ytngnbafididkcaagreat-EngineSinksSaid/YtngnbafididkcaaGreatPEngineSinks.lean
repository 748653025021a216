/- EngineSinks returns true whatever the acts it is given, never panics, and leaves its arguments as they were. Conditions: none. -/
import Derived.Test.YtngnbafididkcaaGreatRows
import Derived.Test.YtngnbafididkcaaGreatN69
import Derived.Test.YtngnbafididkcaaGreatP6
namespace Go.Proofs.YtngnbafididkcaaGreat
open Go.ChangeShapes Go.WideShapes Go.ChangeAt Go.RowKit

theorem Tryz.own : ownKnob Tryz.prog.godebug = none := by kernel_rfl
theorem Tryz.laidOut : laidOutB Tryz.prog = true := by kernel_rfl

theorem b8_wf {n : Int} (h : (Lit.int .u8 n).wf = true) : 0 ≤ n ∧ n ≤ 255 := by
  simp only [Lit.wf, Bool.and_eq_true, decide_eq_true_eq] at h
  exact ⟨h.1, h.2⟩
/-- Acts, from what lies there. -/
theorem actsS_of : ∀ (ls : List (List Value)), (∀ l ∈ ls, fitW [some .u8, some .u8, some .u8, some .u8, some .u8] l) → ∃ acts : List ActS, acts.length = ls.length ∧ ls.flatten = actS acts ∧ ∀ x ∈ acts, ActSOk x
  | [], _ => ⟨[], rfl, rfl, by simp⟩
  | l :: r, h => by
    obtain ⟨acts, h1, h2, h3⟩ := actsS_of r (fun l hl => h l (by simp [hl]))
    obtain ⟨a, w, rfl, ha, b, w2, rfl, hb, c, w3, rfl, hc, d, w4, rfl, hd, e, w5, rfl, he, rfl⟩ := h l (by simp)
    refine ⟨⟨a, b, c, d, e⟩ :: acts, by simp [h1], ?_, fun x hx => ?_⟩
    · rw [List.flatten_cons, h2]; rfl
    · rcases List.mem_cons.1 hx with rfl | hx
      · exact ⟨b8_wf ha, b8_wf hb, b8_wf hc, b8_wf hd, b8_wf he⟩
      · exact h3 x hx
set_option maxRecDepth 100000 in
theorem engineSinks_lifted (os : Os) (started : os.Started) (H : Type) (enc : TypeId × Value → H) :
    ReturnsInHanded {} Tryz.checked os 6 .any (Rows.engineSinksSpec.pre6 enc Tryz.prog Tryz.f6 Rows.engineSinksRow.domain false) (Rows.engineSinksSpec.post enc Tryz.prog Tryz.f6 false true false false) := by
  refine returnsInHanded_of_change (C := Tryz.checked) Tryz.own started (by kernel_rfl) Tryz.func6
    (ChangeSpec.witness6 (enc := enc) (C := Tryz.checked) false ⟨#[], #[.slice none 0 0], []⟩ 8 (by kernel_rfl) (by kernel_rfl) (by kernel_rfl) (by kernel_rfl)) ?_
  intro W base args ds gs before hval0 hW hcnd _
  have hval : ∀ (j : Nat) t v, Tryz.f6.params[j]? = some t → args[j]? = some v → Value.okWide Tryz.prog W .any base t v := hval0
  have hW' := hW
  obtain ⟨p, q, hA0, hV, rfl, hfz, hnd⟩ := hW
  have hA : DataW.TrodAll enc Tryz.prog W 0 (fun _ => true) true Tryz.f6.params.toList args.toList ds p := hA0
  rw [Tryz.params6] at hA hval
  obtain ⟨v0, d0, p0, rfl, rfl, rfl, h0⟩ := trodAll_one' hA
  obtain ⟨ls2, own2, hl2, hs2⟩ := open_flat Tryz.underlying50 (ks := [some .u8, some .u8, some .u8, some .u8, some .u8]) (by kernel_rfl) (hval 0 50 v0 rfl rfl) h0
  obtain ⟨acts, ha1, ha2, ha3⟩ := actsS_of ls2 hl2
  rw [ha2, ← ha1] at hs2
  refine (engineSinks_c (lo := W.heap.size) hs2 ha3 W (Rel.ofWorld W)).mono fun e W' ⟨v, H', nx', he, ⟨hv, _, _⟩, _, hb, _⟩ => ?_
  subst he; subst hv
  exact ⟨_, rfl, law_post Tryz.laidOut (by kernel_rfl) (by kernel_rfl) Tryz.underlying4 rfl hW' (fun hg => by subst hg; rfl) hb.toBelow⟩

theorem engineSinks_holds : Rows.EngineSinksSaid :=
  OpenClaim.holds_of_wide 6 Tryz.f6 rfl rfl rfl rfl rfl rfl rfl ⟨rfl, rfl, rfl, rfl, rfl⟩ rfl rfl rfl rfl rfl (by kernel_rfl) Tryz.func6 (by kernel_rfl)
    (of_decide_eq_true (by kernel_rfl)) (by unfold Func.isWrapper; first | (rw [if_pos (by decide +kernel)]; kernel_rfl) | (rw [if_neg (by decide +kernel)]; exact ⟨rfl, rfl⟩))
    (fun os started H enc _ => engineSinks_lifted os started H enc)

end Go.Proofs.YtngnbafididkcaaGreat
