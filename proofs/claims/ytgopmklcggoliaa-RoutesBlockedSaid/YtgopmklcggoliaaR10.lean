/- The document's example, in our own logic: awake. -/
import Derived.Test.YtgopmklcggoliaaR9
import Derived.Test.YtgopmklcggoliaaR8
import Derived.Test.YtgopmklcggoliaaR7
namespace Go.Proofs.Ytgopmklcggoliaa
open Go.RowKit
set_option linter.unusedSimpArgs false

def aw1 : Tld := ⟨167772160, 8, 1, 0, 1, 96, 50⟩
def aw2 : Tld := ⟨167772160, 8, 2, 0, 1, 50, 50⟩
theorem aw_sorted {l : List Tld} (h : l.Perm [aw1, aw2]) (hs : l.Pairwise (fun x y => ¬ aheadT y x)) : l = [aw1, aw2] := by
  have hl : l.length = 2 := h.length_eq
  obtain ⟨a, b, rfl⟩ : ∃ a b, l = [a, b] := by
    match l, hl with
    | [a, b], _ => exact ⟨a, b, rfl⟩
  have ha : a ∈ [aw1, aw2] := h.mem_iff.1 (by simp)
  have hb : b ∈ [aw1, aw2] := h.mem_iff.1 (by simp)
  have h1 : aw1 ∈ [a, b] := h.mem_iff.2 (by simp)
  have h2 : aw2 ∈ [a, b] := h.mem_iff.2 (by simp)
  have hne : ¬ aw1 = aw2 := by simp [aw1, aw2]
  simp only [List.pairwise_cons, List.mem_singleton, forall_eq] at hs
  have hs1 := hs.1
  simp only [List.mem_cons, List.not_mem_nil, or_false] at ha hb h1 h2
  have hah : aheadT aw1 aw2 := by simp [aheadT, aw1, aw2]
  rcases ha with rfl | rfl
  · rcases hb with rfl | rfl
    · rcases h2 with h | h <;> exact absurd h.symm hne
    · rfl
  · rcases hb with rfl | rfl
    · exact absurd hah hs1
    · rcases h1 with h | h <;> exact absurd h hne

set_option maxRecDepth 20000 in
set_option maxHeartbeats 4000000 in
theorem awake16_c {lo : Nat} {H : AH} {nx : Nat} : ACalls Try.prog lo 7 #[] H nx (fun v H' nx' => v = .bool true ∧ nx ≤ nx' ∧ Kp (fun _ => False) nx H H') := by
  refine ACalls.withLo fun hlo => ?_
  refine acalls_of_awp L7 Try.func7 rfl (by kernel_rfl) ?_
  have hpx : pxRightC 167772160 8 = true := by decide
  simp (disch := omega) only [go_sem, ↓reduceIte ]
  refine rnew_c.mono fun v H1 nx1 _ ⟨p, hv, hp, hR1, hx1, hk1⟩ => ?_
  subst hv
  simp (disch := omega) only [go_sem, ↓reduceIte ]
  intro b hb
  have hlt := hR1.lt
  have hR2 : RouA lo (b + 1) (((H1.new b #[.int .u32 0, .int .u8 0] 39).put b 0 (.int .u32 167772160)).put b 1 (.int .u8 8)) p [] 0 := hR1.kp (S := fun _ => False) (by repeat first | exact Kp.refl _ _ _ | refine Kp.dropT ?_ (.inl (by omega)) | refine Kp.put ?_ (.inl (by omega)) | refine Kp.new ?_ (by omega) | refine Kp.put ?_ (.inr (by omega)) | refine Kp.trans0 ?_ (by assumption) (by omega) | refine Kp.transS ?_ (by assumption) (by omega) (fun b hb hT => by first | omega | (dsimp only at hT ⊢; omega) | (simp only at hT ⊢; omega)))  (by omega) (by simp) (by simp)
  simp (disch := omega) only [go_sem, ↓reduceIte ]
  refine (tell_add hR2 aw1 0 (by simp [aw1]) (by simp [aw1]) (by simp [aw1]) (by simp [aw1]) (by simp only [aw1]; exact hpx) (by simp [aw1]) (by omega) (by omega) (by simp [aw1]) (by simp [aw1]) (by simp) (by simp)).mono fun v H3 nx3 _ ⟨hv, hx3, hk3, own3, hR3, ho3⟩ => ?_
  subst hv
  have hc3 := hk3.cell
  have hle3 := hR3.q.choose_spec.2.le
  simp (disch := omega) only [go_sem, ↓reduceIte , hc3]
  refine (tell_add hR3 aw2 0 (by simp [aw2]) (by simp [aw2]) (by simp [aw2]) (by simp [aw2]) (by simp only [aw2]; exact hpx) (by simp [aw2]) (by omega) (by omega) (by simp [aw2]) (by simp [aw2]) (by simp) (by simp [hitC, aw1, aw2])).mono fun v H4 nx4 _ ⟨hv, hx4, hk4, own4, hR4, ho4⟩ => ?_
  subst hv
  have hlt3 := hR3.lt
  have hle4 := hR4.q.choose_spec.2.le
  simp (disch := omega) only [go_sem, ↓reduceIte ]
  refine snew_c.mono fun v H5 nx5 _ ⟨q, hv, hq, hQ5, hx5, hk5⟩ => ?_
  subst hv
  have hQl := hQ5.lt
  have hR5 : RouA lo nx5 H5 p ([] ++ [aw1] ++ [aw2]) own4 := hR4.kp (S := fun _ => False) hk5 (by omega) (by simp) (by simp)
  simp (disch := omega) only [go_sem, ↓reduceIte ]
  refine good_c.mono fun v H6 nx6 _ ⟨d, hd, hv, hs6, hx6, hk6⟩ => ?_
  subst hv
  have hR6 : RouA lo nx6 H6 p ([] ++ [aw1] ++ [aw2]) own4 := hR5.kp (S := fun _ => False) hk6 (by omega) (by simp) (by simp)
  have hQ6 := hQ5.kp hk6 hx6 (by simp)
  simp (disch := omega) only [go_sem, ↓reduceIte ]
  refine (rselect_c (costs := [96, 96, 96, 96, 96, 96, 96, 96]) (feas := fun _ => true) hR6 (fun t ht => ?_) (by simp) hs6 (by simp) (fun H7 nx7 hx7 hk7 t _ => ?_)).mono fun v H7 nx7 _ ⟨hx7, hk7, own7, ts', hp', hsd', hs7, ho7⟩ => ?_
  · simp only [List.nil_append, List.cons_append, List.mem_cons, List.not_mem_nil, or_false] at ht
    rcases ht with rfl | rfl
    · exact ⟨by constructor <;> simp [aw1], by simp [aw1], by simp [aw1]⟩
    · exact ⟨by constructor <;> simp [aw2], by simp [aw2], by simp [aw2]⟩
  · exact sfeas_none (hQ6.kp hk7 hx7 (by simp)) _ _ _ _
  · have := aw_sorted hp' hsd'
    subst this
    have hsel : selR [96, 96, 96, 96, 96, 96, 96, 96] (fun _ => true) [aw1, aw2] = [⟨167772160, 8, 2, 146, 1⟩] := by rfl
    rw [hsel] at hs7
    have hone7 := hs7.one
    obtain ⟨g7, off7, cap7, hv7, hg7⟩ := hs7.open (by simp)
    subst hv7
    have e1 : H7.c g7 (off7 + Int.toNat 0 * 5 + 2) = some (.int .i64 2) := hs7.cells.1 2 _ rfl
    have e2 : H7.c g7 (off7 + Int.toNat 0 * 5 + 3) = some (.int .u16 146) := hs7.cells.1 3 _ rfl
    simp (disch := omega) only [go_sem, ↓reduceIte , e1, e2, List.length_singleton]
    exact ⟨by omega, (by repeat first | exact Kp.refl _ _ _ | refine Kp.dropT ?_ (.inl (by omega)) | refine Kp.put ?_ (.inl (by omega)) | refine Kp.new ?_ (by omega) | refine Kp.put ?_ (.inr (by omega)) | refine Kp.trans0 ?_ (by assumption) (by omega) | refine Kp.transS ?_ (by assumption) (by omega) (fun b hb hT => by first | omega | (dsimp only at hT ⊢; omega) | (simp only at hT ⊢; omega))) ⟩
end Go.Proofs.Ytgopmklcggoliaa
