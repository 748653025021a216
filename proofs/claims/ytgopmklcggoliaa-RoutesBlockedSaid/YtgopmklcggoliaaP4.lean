/- Acts on routes, as they came in. -/
import Derived.Test.YtgopmklcggoliaaP2
import Derived.Test.YtgopmklcggoliaaT7
namespace Go.Proofs.Ytgopmklcggoliaa
open Go.ChangeShapes Go.WideShapes Go.ChangeAt Go.RowKit

theorem trodAll_two' {H : Type} {enc : TypeId × Value → H} {P : Program} {w : World} {base : Nat} {spare : Nat → Bool} {held : Bool} {t0 t1 : TypeId} {args : Array Value} {ds : List (DataW H)} {ps : List MemPlace} (h : DataW.TrodAll enc P w base spare held [t0, t1] args.toList ds ps) :
    ∃ v0 v1 d0 d1 p0 p1, args = #[v0, v1] ∧ ds = [d0, d1] ∧ ps = p0 ++ p1 ∧ DataW.Trod enc P w base spare held t0 v0 d0 p0 ∧ DataW.Trod enc P w base spare held t1 v1 d1 p1 := by
  obtain ⟨l⟩ := args
  obtain ⟨v0, l1, d0, ds1, p0, q0, rfl, rfl, rfl, h0, h⟩ := trodAll_cons h
  obtain ⟨v1, l2, d1, ds2, p1, q1, rfl, rfl, rfl, h1, h⟩ := trodAll_cons h
  obtain ⟨rfl, rfl, rfl⟩ := trodAll_nil h
  exact ⟨v0, v1, d0, d1, p0, p1, rfl, rfl, by simp, h0, h1⟩

theorem u8_wf {n : Int} (h : (Lit.int .u8 n).wf = true) : 0 ≤ n ∧ n ≤ 255 := by
  simp only [Lit.wf, Bool.and_eq_true, decide_eq_true_eq] at h
  exact ⟨h.1, h.2⟩
theorem u16_wf {n : Int} (h : (Lit.int .u16 n).wf = true) : 0 ≤ n ∧ n ≤ 65535 := by
  simp only [Lit.wf, Bool.and_eq_true, decide_eq_true_eq] at h
  exact ⟨h.1, h.2⟩

/-- Acts, from what lies there. -/
theorem a16_of : ∀ (ls : List (List Value)), (∀ l ∈ ls, fitW [some .u8, some .u8, some .u8, some .u8, some .u16] l) → ∃ acts : List Act16, acts.length = ls.length ∧ ls.flatten = a16Cells acts ∧ ∀ x ∈ acts, Act16Ok x
  | [], _ => ⟨[], rfl, rfl, by simp⟩
  | l :: r, h => by
    obtain ⟨acts, h1, h2, h3⟩ := a16_of r (fun l hl => h l (by simp [hl]))
    obtain ⟨a, w, rfl, ha, b, w2, rfl, hb, c, w3, rfl, hc, d, w4, rfl, hd, e, w5, rfl, he, rfl⟩ := h l (by simp)
    refine ⟨⟨a, b, c, d, e⟩ :: acts, by simp [h1], ?_, fun x hx => ?_⟩
    · rw [List.flatten_cons, h2]; rfl
    · rcases List.mem_cons.1 hx with rfl | hx
      · exact ⟨(u8_wf ha).1, (u8_wf hb).1, (u8_wf hc).1, (u8_wf hc).2, (u8_wf hd).1, (u8_wf hd).2, (u16_wf he).1, (u16_wf he).2⟩
      · exact h3 x hx
end Go.Proofs.Ytgopmklcggoliaa
