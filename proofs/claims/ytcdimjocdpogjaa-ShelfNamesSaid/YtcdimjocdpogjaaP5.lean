/- Arguments that are bytes. Nothing of the program stands here. -/
import Derived.Test.YtcdimjocdpogjaaP2
namespace Go.Proofs.Ytcdimjocdpogjaa
open Go.ChangeShapes Go.WideShapes Go.ChangeAt Go.RowKit
theorem bytes_of5 : ∀ (ls : List (List Value)), (∀ l ∈ ls, fitW [some .u8] l) → ∃ bs : List Int, bs.length = ls.length ∧ ls.flatten = bs.map (fun b => Value.int .u8 b) ∧ ∀ x ∈ bs, 0 ≤ x ∧ x < 256
  | [], _ => ⟨[], rfl, rfl, by simp⟩
  | l :: r, h => by
    obtain ⟨zs, h1, h2, h3⟩ := bytes_of5 r (fun l hl => h l (by simp [hl]))
    obtain ⟨a, w, rfl, ha, rfl⟩ := h l (by simp)
    refine ⟨a :: zs, by simp [h1], by rw [List.flatten_cons, h2]; rfl, fun x hx => ?_⟩
    rcases List.mem_cons.1 hx with rfl | hx
    · simp only [Lit.wf, Bool.and_eq_true, decide_eq_true_eq] at ha
      have h1 : 0 ≤ x := ha.1
      have h2 : x ≤ 255 := ha.2
      omega
    · exact h3 x hx
end Go.Proofs.Ytcdimjocdpogjaa
