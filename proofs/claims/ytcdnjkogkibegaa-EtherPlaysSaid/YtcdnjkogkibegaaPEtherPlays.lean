/- EtherPlays returns true whatever the slice of acts it is given, never panics, and leaves its argument as it was. Conditions: none. -/
import Derived.Test.YtcdnjkogkibegaaRows
import Derived.Test.YtcdnjkogkibegaaF19
import Derived.Test.YtcdnjkogkibegaaP2
namespace Go.Proofs.Ytcdnjkogkibegaa
open Go.ChangeShapes Go.WideShapes Go.ChangeAt Go.RowKit

theorem Try.own : ownKnob Try.prog.godebug = none := by kernel_rfl
theorem Try.laidOut : laidOutB Try.prog = true := by kernel_rfl

theorem u8_wf {n : Int} (h : (Lit.int .u8 n).wf = true) : 0 ≤ n ∧ n ≤ 255 := by
  simp only [Lit.wf, Bool.and_eq_true, decide_eq_true_eq] at h
  exact ⟨h.1, h.2⟩

/-- Acts, from what lies there. -/
theorem acts19_of : ∀ (ls : List (List Value)), (∀ l ∈ ls, fitW [some .u8, some .u8, some .u8, some .i64] l) → ∃ acts : List Act19, acts.length = ls.length ∧ ls.flatten = actCells19 acts ∧ ∀ x ∈ acts, Act19Ok x
  | [], _ => ⟨[], rfl, rfl, by simp⟩
  | l :: r, h => by
    obtain ⟨acts, h1, h2, h3⟩ := acts19_of r (fun l hl => h l (by simp [hl]))
    obtain ⟨a, w, rfl, ha, b, w2, rfl, hb, c, w3, rfl, hc, d, w4, rfl, hd, rfl⟩ := h l (by simp)
    refine ⟨⟨a, b, c, d⟩ :: acts, by simp [h1], ?_, fun x hx => ?_⟩
    · rw [List.flatten_cons, h2]; rfl
    · rcases List.mem_cons.1 hx with rfl | hx
      · exact ⟨(u8_wf ha).1, (u8_wf ha).2, (u8_wf hb).1, (u8_wf hb).2, (u8_wf hc).1, (u8_wf hc).2⟩
      · exact h3 x hx

theorem etherPlays_c {lo : Nat} {H : AH} {nx : Nat} {s : Value} {acts : List Act19} {owna : Nat} (hs : SlA nx H 4 s acts.length (actCells19 acts) owna) (hok : ∀ x ∈ acts, Act19Ok x) :
    ACalls Try.prog lo 7 #[s] H nx (fun v H' nx' => v = .bool true ∧ nx ≤ nx' ∧ Kp (fun _ => False) nx H H') := by
  by_cases h : 80 < acts.length
  · exact plays_much hs h
  · exact plays_c hs hok (by omega)

set_option maxRecDepth 100000 in
theorem etherPlays_lifted (os : Os) (started : os.Started) (H : Type) (enc : TypeId × Value → H) :
    ReturnsInHanded {} Try.checked os 7 .any (Rows.etherPlaysSpec.pre6 enc Try.prog Try.f7 Rows.etherPlaysRow.domain false) (Rows.etherPlaysSpec.post enc Try.prog Try.f7 false true false false) := by
  refine returnsInHanded_of_change (C := Try.checked) Try.own started (by kernel_rfl) Try.func7
    (ChangeSpec.witness6 (enc := enc) (C := Try.checked) false ⟨#[], #[.slice none 0 0], []⟩ 8 (by kernel_rfl) (by kernel_rfl) (by kernel_rfl) (by kernel_rfl)) ?_
  intro W base args ds gs before hval0 hW hcnd _
  have hval : ∀ (j : Nat) t v, Try.f7.params[j]? = some t → args[j]? = some v → Value.okWide Try.prog W .any base t v := hval0
  have hW' := hW
  obtain ⟨p, q, hA0, hV, rfl, hfz, hnd⟩ := hW
  have hA : DataW.TrodAll enc Try.prog W 0 (fun _ => true) true Try.f7.params.toList args.toList ds p := hA0
  rw [Try.params7] at hA hval
  obtain ⟨v0, d0, p0, rfl, rfl, rfl, h0⟩ := trodAll_one' hA
  obtain ⟨ls0, own0, hl0, hs0⟩ := open_flat Try.underlying64 (ks := [some .u8, some .u8, some .u8, some .i64]) (by kernel_rfl) (hval 0 64 v0 rfl rfl) h0
  obtain ⟨acts, ha1, ha2, ha3⟩ := acts19_of ls0 hl0
  rw [ha2, ← ha1] at hs0
  refine (etherPlays_c (lo := W.heap.size) hs0 ha3 W (Rel.ofWorld W)).mono fun e W' ⟨v, H', nx', he, ⟨hv, _, _⟩, _, hb, _⟩ => ?_
  subst he; subst hv
  exact ⟨_, rfl, law_post Try.laidOut (by kernel_rfl) (by kernel_rfl) Try.underlying4 rfl hW' (fun hg => by subst hg; rfl) hb⟩

theorem etherPlays_holds : Rows.EtherPlaysSaid :=
  OpenClaim.holds_of_wide 7 Try.f7 rfl rfl rfl rfl rfl rfl rfl ⟨rfl, rfl, rfl, rfl, rfl⟩ rfl rfl rfl rfl rfl (by kernel_rfl) Try.func7 (by kernel_rfl)
    (of_decide_eq_true (by kernel_rfl)) (by unfold Func.isWrapper; first | (rw [if_pos (by decide +kernel)]; kernel_rfl) | (rw [if_neg (by decide +kernel)]; exact ⟨rfl, rfl⟩))
    (fun os started H enc _ => etherPlays_lifted os started H enc)

end Go.Proofs.Ytcdnjkogkibegaa
