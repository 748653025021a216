/- IdealFolds returns true whatever the two slices it is given, never panics, and leaves its arguments as they were. Conditions: none. -/
import Derived.Test.YtcdnjkogkibegaaRows
import Derived.Test.YtcdnjkogkibegaaG7
import Derived.Test.YtcdnjkogkibegaaP2
namespace Go.Proofs.Ytcdnjkogkibegaa
open Go.ChangeShapes Go.WideShapes Go.ChangeAt Go.RowKit

theorem Try.own : ownKnob Try.prog.godebug = none := by kernel_rfl
theorem Try.laidOut : laidOutB Try.prog = true := by kernel_rfl

theorem b8_wf {n : Int} (h : (Lit.int .u8 n).wf = true) : b8 n := by
  simp only [Lit.wf, Bool.and_eq_true, decide_eq_true_eq] at h
  exact ⟨h.1, h.2⟩

/-- Acts, from what lies there. -/
theorem acts_of : ∀ (ls : List (List Value)), (∀ l ∈ ls, fitW [some .u8, some .u8, some .u8, some .u8, some .u8] l) → ∃ acts : List Act5, acts.length = ls.length ∧ ls.flatten = actCells acts ∧ ∀ x ∈ acts, Act5Ok x
  | [], _ => ⟨[], rfl, rfl, by simp⟩
  | l :: r, h => by
    obtain ⟨acts, h1, h2, h3⟩ := acts_of r (fun l hl => h l (by simp [hl]))
    obtain ⟨a, w, rfl, ha, b, w2, rfl, hb, c, w3, rfl, hc, d, w4, rfl, hd, e, w5, rfl, he, rfl⟩ := h l (by simp)
    refine ⟨⟨a, b, c, d, e⟩ :: acts, by simp [h1], ?_, fun x hx => ?_⟩
    · rw [List.flatten_cons, h2]; rfl
    · rcases List.mem_cons.1 hx with rfl | hx
      · exact ⟨b8_wf ha, b8_wf hb, b8_wf hc, b8_wf hd, b8_wf he⟩
      · exact h3 x hx
theorem ints_of : ∀ (ls : List (List Value)), (∀ l ∈ ls, fitW [some .i64] l) → ∃ zs : List Int, zs.length = ls.length ∧ ls.flatten = zs.map (Value.int .i64)
  | [], _ => ⟨[], rfl, rfl⟩
  | l :: r, h => by
    obtain ⟨zs, h1, h2⟩ := ints_of r (fun l hl => h l (by simp [hl]))
    obtain ⟨a, w, rfl, ha, rfl⟩ := h l (by simp)
    exact ⟨a :: zs, by simp [h1], by rw [List.flatten_cons, h2]; rfl⟩

theorem idealFolds_c {lo : Nat} {H : AH} {nx : Nat} {s f : Value} {acts : List Act5} {folds : List Int} {owna ownf : Nat} (hs : SlA nx H 5 s acts.length (actCells acts) owna) (hok : ∀ x ∈ acts, Act5Ok x) (hf : SlA nx H 1 f folds.length (folds.map (Value.int .i64)) ownf) :
    ACalls Try.prog lo 5 #[s, f] H nx (fun v H' nx' => v = .bool true ∧ nx ≤ nx' ∧ Kp (fun _ => False) nx H H') := by
  by_cases h1 : 30 < acts.length
  · exact folds_much hs hf (.inl h1)
  · by_cases h2 : 10 < folds.length
    · exact folds_much hs hf (.inr h2)
    · exact folds_c hs hok hf (by omega) (by omega)

set_option maxRecDepth 100000 in
theorem idealFolds_lifted (os : Os) (started : os.Started) (H : Type) (enc : TypeId × Value → H) :
    ReturnsInHanded {} Try.checked os 5 .any (Rows.idealFoldsSpec.pre6 enc Try.prog Try.f5 Rows.idealFoldsRow.domain false) (Rows.idealFoldsSpec.post enc Try.prog Try.f5 false true false false) := by
  refine returnsInHanded_of_change (C := Try.checked) Try.own started (by kernel_rfl) Try.func5
    (ChangeSpec.witness6 (enc := enc) (C := Try.checked) false ⟨#[], #[.slice none 0 0, .slice none 0 0], []⟩ 8 (by kernel_rfl) (by kernel_rfl) (by kernel_rfl) (by kernel_rfl)) ?_
  intro W base args ds gs before hval0 hW hcnd _
  have hval : ∀ (j : Nat) t v, Try.f5.params[j]? = some t → args[j]? = some v → Value.okWide Try.prog W .any base t v := hval0
  have hW' := hW
  obtain ⟨p, q, hA0, hV, rfl, hfz, hnd⟩ := hW
  have hA : DataW.TrodAll enc Try.prog W 0 (fun _ => true) true Try.f5.params.toList args.toList ds p := hA0
  rw [Try.params5] at hA hval
  obtain ⟨v0, v1, d0, d1, p0, p1, rfl, rfl, rfl, h0, h1⟩ := trodAll_two hA
  obtain ⟨ls0, own0, hl0, hs0⟩ := open_flat Try.underlying43 (ks := [some .u8, some .u8, some .u8, some .u8, some .u8]) (by kernel_rfl) (hval 0 43 v0 rfl rfl) h0
  obtain ⟨ls1, own1, hl1, hs1⟩ := open_flat Try.underlying44 (ks := [some .i64]) (by kernel_rfl) (hval 1 44 v1 rfl rfl) h1
  obtain ⟨acts, ha1, ha2, ha3⟩ := acts_of ls0 hl0
  obtain ⟨zs, hz1, hz2⟩ := ints_of ls1 hl1
  rw [ha2, ← ha1] at hs0
  rw [hz2, ← hz1] at hs1
  refine (idealFolds_c (lo := W.heap.size) hs0 ha3 hs1 W (Rel.ofWorld W)).mono fun e W' ⟨v, H', nx', he, ⟨hv, _, _⟩, _, hb, _⟩ => ?_
  subst he; subst hv
  exact ⟨_, rfl, law_post Try.laidOut (by kernel_rfl) (by kernel_rfl) Try.underlying4 rfl hW' (fun hg => by subst hg; rfl) hb⟩

theorem idealFolds_holds : Rows.IdealFoldsSaid :=
  OpenClaim.holds_of_wide 5 Try.f5 rfl rfl rfl rfl rfl rfl rfl ⟨rfl, rfl, rfl, rfl, rfl⟩ rfl rfl rfl rfl rfl (by kernel_rfl) Try.func5 (by kernel_rfl)
    (of_decide_eq_true (by kernel_rfl)) (by unfold Func.isWrapper; first | (rw [if_pos (by decide +kernel)]; kernel_rfl) | (rw [if_neg (by decide +kernel)]; exact ⟨rfl, rfl⟩))
    (fun os started H enc _ => idealFolds_lifted os started H enc)

end Go.Proofs.Ytcdnjkogkibegaa
