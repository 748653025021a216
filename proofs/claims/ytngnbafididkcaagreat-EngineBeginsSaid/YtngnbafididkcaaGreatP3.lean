/- Acts of a history, as they came in. -/
import Derived.Test.YtngnbafididkcaaGreatP6
import Derived.Test.YtngnbafididkcaaGreatG4
namespace Go.Proofs.YtngnbafididkcaaGreat
open Go.ChangeShapes Go.WideShapes Go.ChangeAt Go.RowKit

theorem b8_wf {n : Int} (h : (Lit.int .u8 n).wf = true) : b8 n := by
  simp only [Lit.wf, Bool.and_eq_true, decide_eq_true_eq] at h
  exact ⟨h.1, h.2⟩

/-- Acts, from what lies there. -/
theorem acts_of : ∀ (ls : List (List Value)), (∀ l ∈ ls, fitW [some .u8, some .u8, some .u8, some .u8, some .u8] l) → ∃ acts : List Act5, acts.length = ls.length ∧ ls.flatten = actCells acts ∧ ∀ x ∈ acts, Act5Ok x
  | [], _ => ⟨[], rfl, rfl, by simp⟩
  | l :: r, h => by
    obtain ⟨acts, h1, h2, h3⟩ := acts_of r (fun l hl => h l (by simp [hl]))
    obtain ⟨a, w, rfl, ha, b, w2, rfl, hb, c, w3, rfl, hc, d, w4, rfl, hd, e, w5, rfl, he, rfl⟩ := h l (by simp)
    refine ⟨⟨a, b, c, d, e⟩ :: acts, by simp [h1], ?_, fun x hx => ?_⟩
    · rw [List.flatten_cons, h2]; rfl
    · rcases List.mem_cons.1 hx with rfl | hx
      · exact ⟨b8_wf ha, b8_wf hb, b8_wf hc, b8_wf hd, b8_wf he⟩
      · exact h3 x hx
end Go.Proofs.YtngnbafididkcaaGreat
