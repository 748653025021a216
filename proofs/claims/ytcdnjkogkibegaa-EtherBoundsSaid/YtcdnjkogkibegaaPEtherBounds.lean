/- EtherBounds returns true whatever the three numbers and the slice it is given, never panics, and leaves its arguments as they were. Conditions: none. -/
import Derived.Test.YtcdnjkogkibegaaRows
import Derived.Test.YtcdnjkogkibegaaF11
import Derived.Test.YtcdnjkogkibegaaP2
namespace Go.Proofs.Ytcdnjkogkibegaa
open Go.ChangeShapes Go.WideShapes Go.ChangeAt Go.RowKit

theorem Try.own : ownKnob Try.prog.godebug = none := by kernel_rfl
theorem Try.laidOut : laidOutB Try.prog = true := by kernel_rfl

theorem bytes_of : ∀ (ls : List (List Value)), (∀ l ∈ ls, fitW [some .u8] l) → ∃ bs : List Int, bs.length = ls.length ∧ ls.flatten = byteV bs ∧ ∀ x ∈ bs, 0 ≤ x ∧ x < 256
  | [], _ => ⟨[], rfl, rfl, by simp⟩
  | l :: r, h => by
    obtain ⟨zs, h1, h2, h3⟩ := bytes_of r (fun l hl => h l (by simp [hl]))
    obtain ⟨a, w, rfl, ha, rfl⟩ := h l (by simp)
    refine ⟨a :: zs, by simp [h1], by rw [List.flatten_cons, h2]; rfl, fun x hx => ?_⟩
    rcases List.mem_cons.1 hx with rfl | hx
    · simp only [Lit.wf, Bool.and_eq_true, decide_eq_true_eq] at ha
      have h1 : 0 ≤ x := ha.1
      have h2 : x ≤ 255 := ha.2
      omega
    · exact h3 x hx

theorem etherBounds_c {lo : Nat} {H : AH} {nx : Nat} (a b i : Int) (s : Value) (bs : List Int) (own : Nat) (hs : SlA nx H 1 s bs.length (byteV bs) own) (hr : ∀ x ∈ bs, 0 ≤ x ∧ x < 256) :
    ACalls Try.prog lo 8 #[.int .i64 a, .int .i64 b, s, .int .i64 i] H nx (fun v H' nx' => v = .bool true ∧ nx ≤ nx' ∧ Kp (fun _ => False) nx H H') := by
  by_cases h1 : bs.length = 0 ∨ 60 < bs.length
  · exact bounds_bad a b i s bs own hs h1
  · by_cases h2 : 0 ≤ a ∧ a < 16 ∧ 0 ≤ b ∧ b < 16 ∧ a ≠ b
    · obtain ⟨x, rfl⟩ : ∃ x : Nat, a = x := ⟨a.toNat, by omega⟩
      obtain ⟨y, rfl⟩ : ∃ y : Nat, b = y := ⟨b.toNat, by omega⟩
      exact bounds_yes x y i s bs own hs (by omega) (by omega) hr (by omega) (by omega) (by omega)
    · exact bounds_no a b i s bs own hs (by omega) (by omega) hr (by omega)

set_option maxRecDepth 100000 in
theorem etherBounds_lifted (os : Os) (started : os.Started) (H : Type) (enc : TypeId × Value → H) :
    ReturnsInHanded {} Try.checked os 8 .any (Rows.etherBoundsSpec.pre6 enc Try.prog Try.f8 Rows.etherBoundsRow.domain false) (Rows.etherBoundsSpec.post enc Try.prog Try.f8 false true false false) := by
  refine returnsInHanded_of_change (C := Try.checked) Try.own started (by kernel_rfl) Try.func8
    (ChangeSpec.witness6 (enc := enc) (C := Try.checked) false ⟨#[], #[.int .i64 0, .int .i64 0, .slice none 0 0, .int .i64 0], []⟩ 8 (by kernel_rfl) (by kernel_rfl) (by kernel_rfl) (by kernel_rfl)) ?_
  intro W base args ds gs before hval0 hW hcnd _
  have hval : ∀ (j : Nat) t v, Try.f8.params[j]? = some t → args[j]? = some v → Value.okWide Try.prog W .any base t v := hval0
  have hW' := hW
  obtain ⟨p, q, hA0, hV, rfl, hfz, hnd⟩ := hW
  have hA : DataW.TrodAll enc Try.prog W 0 (fun _ => true) true Try.f8.params.toList args.toList ds p := hA0
  rw [Try.params8] at hA hval
  obtain ⟨v0, v1, v2, v3, d0, d1, d2, d3, p0, p1, p2, p3, rfl, rfl, rfl, h0, h1, h2, h3⟩ := trodAll_four' hA
  obtain ⟨a, rfl, rfl, rfl, w0⟩ := open_int Try.underlying3 (hval 0 3 v0 rfl rfl) h0
  obtain ⟨b, rfl, rfl, rfl, w1⟩ := open_int Try.underlying3 (hval 1 3 v1 rfl rfl) h1
  obtain ⟨ls2, own2, hl2, hs2⟩ := open_flat Try.underlying34 (ks := [some .u8]) (by kernel_rfl) (hval 2 34 v2 rfl rfl) h2
  obtain ⟨i, rfl, rfl, rfl, w3⟩ := open_int Try.underlying3 (hval 3 3 v3 rfl rfl) h3
  obtain ⟨bs, hb1, hb2, hb3⟩ := bytes_of ls2 hl2
  rw [hb2, ← hb1] at hs2
  refine (etherBounds_c (lo := W.heap.size) a b i v2 bs own2 hs2 hb3 W (Rel.ofWorld W)).mono fun e W' ⟨v, H', nx', he, ⟨hv, _, _⟩, _, hb, _⟩ => ?_
  subst he; subst hv
  exact ⟨_, rfl, law_post Try.laidOut (by kernel_rfl) (by kernel_rfl) Try.underlying4 rfl hW' (fun hg => by subst hg; rfl) hb⟩

theorem etherBounds_holds : Rows.EtherBoundsSaid :=
  OpenClaim.holds_of_wide 8 Try.f8 rfl rfl rfl rfl rfl rfl rfl ⟨rfl, rfl, rfl, rfl, rfl⟩ rfl rfl rfl rfl rfl (by kernel_rfl) Try.func8 (by kernel_rfl)
    (of_decide_eq_true (by kernel_rfl)) (by unfold Func.isWrapper; first | (rw [if_pos (by decide +kernel)]; kernel_rfl) | (rw [if_neg (by decide +kernel)]; exact ⟨rfl, rfl⟩))
    (fun os started H enc _ => etherBounds_lifted os started H enc)

end Go.Proofs.Ytcdnjkogkibegaa
