/- EngineBegins returns true whatever its arguments, never panics, and leaves its arguments as they were. Conditions: none. -/
import Derived.Test.YtngnbafididkcaaGreatRows
import Derived.Test.YtngnbafididkcaaGreatA11
import Derived.Test.YtngnbafididkcaaGreatP3
namespace Go.Proofs.YtngnbafididkcaaGreat
open Go.ChangeShapes Go.WideShapes Go.ChangeAt Go.RowKit Go.Deep

theorem Tryz.own : ownKnob Tryz.prog.godebug = none := by kernel_rfl
theorem Tryz.laidOut : laidOutB Tryz.prog = true := by kernel_rfl

/-- Prefixes, from what lies there. -/
theorem pxs_of : ∀ (ls : List (List Value)), (∀ l ∈ ls, fitW [some .u32, some .u8] l) → ∃ ps : List (Int × Int), ps.length = ls.length ∧ ls.flatten = pxC ps ∧ ∀ x ∈ ps, pxIn x
  | [], _ => ⟨[], rfl, rfl, by simp⟩
  | l :: r, h => by
    obtain ⟨ps, h1, h2, h3⟩ := pxs_of r (fun l hl => h l (by simp [hl]))
    obtain ⟨a, w, rfl, ha, b, w2, rfl, hb, rfl⟩ := h l (by simp)
    refine ⟨(a, b) :: ps, by simp [h1], ?_, fun x hx => ?_⟩
    · rw [List.flatten_cons, h2]; rfl
    · rcases List.mem_cons.1 hx with rfl | hx
      · simp only [Lit.wf, Bool.and_eq_true, decide_eq_true_eq] at ha hb
        exact ⟨ha, hb⟩
      · exact h3 x hx
/-- A struct of a number and a slice. -/
theorem open_numSlice {H : Type} {enc : TypeId × Value → H} {P : Program} {W : World} {r : Reach} {base : Nat} {t e : TypeId} {f0 f1 : Field} {v : Value} {d : DataW H} {ps : List MemPlace}
    (ht : P.underlying t = some (.struct #[f0, f1])) (o0 : f0.offset = 0) (o1 : f1.offset = 1) (c0 : P.cellsOf f0.type = 1) (c1 : P.cellsOf f1.type = 1) (i0 : P.underlying f0.type = some (.int .i64)) (s1 : P.underlying f1.type = some (.slice e)) (hc : P.cellsOf t = 2)
    (hval : Value.okWide P W r base t v) (h : DataW.Trod enc P W 0 (fun _ => true) true t v d ps) : ∃ n a len cap, v = .agg #[.int .i64 n, .slice a len cap] := by
  obtain ⟨cs, rfl, hsz⟩ := okWide_struct ht hval
  obtain ⟨fuel, h⟩ := h
  obtain ⟨y0, y1, n, _, hlen, h0, h1⟩ := trod_struct2 ht h
  rw [hc] at hlen hsz
  rw [o0, c0] at h0
  rw [o1, c1] at h1
  obtain ⟨l⟩ := cs
  match l, hsz with
  | [x0, x1], _ =>
    have h0 : DataW.trod enc P W 0 (fun _ => true) true n f0.type [x0] = some y0 := h0
    have h1 : DataW.trod enc P W 0 (fun _ => true) true n f1.type [x1] = some y1 := h1
    obtain ⟨m, hm, _, _⟩ := DataW.trod_int i0 h0
    have hm : x0 = .int .i64 m := by simpa using hm
    subst hm
    rcases open_slice s1 h1 with ⟨hv, _⟩ | ⟨a, len, cap, _, _, _, _, hv, _⟩
    · have hv : [x1] = [Value.slice none 0 0] := hv
      have hv : x1 = .slice none 0 0 := by simpa using hv
      subst hv
      exact ⟨m, _, _, _, rfl⟩
    · have hv : [x1] = [Value.slice (some a) len cap] := hv
      have hv : x1 = .slice (some a) len cap := by simpa using hv
      subst hv
      exact ⟨m, _, _, _, rfl⟩
set_option maxRecDepth 100000 in
theorem engineBegins_lifted (os : Os) (started : os.Started) (H : Type) (enc : TypeId × Value → H) :
    ReturnsInHanded {} Tryz.checked os 12 .any (Rows.engineBeginsSpec.pre6 enc Tryz.prog Tryz.f12 Rows.engineBeginsRow.domain false) (Rows.engineBeginsSpec.post enc Tryz.prog Tryz.f12 false true false false) := by
  refine returnsInHanded_of_change (C := Tryz.checked) Tryz.own started (by kernel_rfl) Tryz.func12
    (ChangeSpec.witness6 (enc := enc) (C := Tryz.checked) false ⟨#[], #[.slice none 0 0, .slice none 0 0, .int .u8 0, .agg #[.int .i64 0, .slice none 0 0]], []⟩ 8 (by kernel_rfl) (by kernel_rfl) (by kernel_rfl) (by kernel_rfl)) ?_
  intro W base args ds gs before hval0 hW hcnd _
  have hval : ∀ (j : Nat) t v, Tryz.f12.params[j]? = some t → args[j]? = some v → Value.okWide Tryz.prog W .any base t v := hval0
  have hW' := hW
  obtain ⟨p, q, hA0, hV, rfl, hfz, hnd⟩ := hW
  have hA : DataW.TrodAll enc Tryz.prog W 0 (fun _ => true) true Tryz.f12.params.toList args.toList ds p := hA0
  rw [Tryz.params12] at hA hval
  obtain ⟨v0, v1, v2, v3, d0, d1, d2, d3, p0, p1, p2, p3, rfl, rfl, rfl, h0, h1, h2, h3⟩ := trodAll_four' hA
  obtain ⟨ls0, own0, hl0, hs0⟩ := open_flat Tryz.underlying46 (ks := [some .u32, some .u8]) (by kernel_rfl) (hval 0 46 v0 rfl rfl) h0
  obtain ⟨ls1, own1, hl1, hs1⟩ := open_flat Tryz.underlying50 (ks := [some .u8, some .u8, some .u8, some .u8, some .u8]) (by kernel_rfl) (hval 1 50 v1 rfl rfl) h1
  obtain ⟨a, rfl, rfl, rfl, w2⟩ := open_int Tryz.underlying5 (hval 2 5 v2 rfl rfl) h2
  obtain ⟨f, xa, xn, xc, rfl⟩ := open_numSlice Tryz.underlying36 rfl rfl (by kernel_rfl) (by kernel_rfl) Tryz.underlying3 Tryz.underlying34 (by kernel_rfl) (hval 3 36 v3 rfl rfl) h3
  obtain ⟨pl, ha1, ha2, ha3⟩ := pxs_of ls0 hl0
  rw [ha2, ← ha1] at hs0
  obtain ⟨acts, hb1, hb2, hb3⟩ := acts_of ls1 hl1
  rw [hb2, ← hb1] at hs1
  simp only [Lit.wf, Bool.and_eq_true, decide_eq_true_eq] at w2
  refine (engineBegins_c (lo := W.heap.size) hs0 ha3 hs1 hb3 w2 W (Rel.ofWorld W)).mono fun e W' ⟨v, H', nx', he, ⟨hv, _, _⟩, _, hb, _⟩ => ?_
  subst he; subst hv
  exact ⟨_, rfl, law_post Tryz.laidOut (by kernel_rfl) (by kernel_rfl) Tryz.underlying4 rfl hW' (fun hg => by subst hg; rfl) hb.toBelow⟩

theorem engineBegins_holds : Rows.EngineBeginsSaid :=
  OpenClaim.holds_of_wide 12 Tryz.f12 rfl rfl rfl rfl rfl rfl rfl ⟨rfl, rfl, rfl, rfl, rfl⟩ rfl rfl rfl rfl rfl (by kernel_rfl) Tryz.func12 (by kernel_rfl)
    (of_decide_eq_true (by kernel_rfl)) (by unfold Func.isWrapper; first | (rw [if_pos (by decide +kernel)]; kernel_rfl) | (rw [if_neg (by decide +kernel)]; exact ⟨rfl, rfl⟩))
    (fun os started H enc _ => engineBegins_lifted os started H enc)

end Go.Proofs.YtngnbafididkcaaGreat
