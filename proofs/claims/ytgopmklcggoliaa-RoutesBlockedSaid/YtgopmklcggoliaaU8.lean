/- Marks of some prefixes; what the ways cost. -/
import Derived.Test.YtgopmklcggoliaaU7
import Derived.Test.YtgopmklcggoliaaR8
import Derived.Test.YtgopmklcggoliaaT7
namespace Go.Proofs.Ytgopmklcggoliaa
open Go.RowKit
set_option linter.unusedSimpArgs false

theorem SrcN.sou {lo nx : Nat} {H : AH} {q : Nat} (h : SrcN lo nx H q) : SouA lo nx H q [] 0 :=
  ⟨h.ge, h.lt, ⟨_, h.l, SlA.nil _ _ _⟩, .inl rfl, by omega, List.Pairwise.nil⟩

structure LoI (lo nx0 : Nat) (H0 : AH) (q : Nat) (sv : Value) (marks : List Act16) (m : Nat) (env : Env) (H : AH) (nx i : Nat) (es : List Ent) (own : Nat) : Prop where
  hm : m = marks.length - i
  hi : i ≤ marks.length
  henv : env = [(0, sv), (3, .pointer (some ⟨q, 0, none⟩)), (4, .int .i64 i)]
  hx : nx0 ≤ nx
  hk : Kp (fun _ => False) nx0 H0 H
  hq : SouA lo nx H q es own
  ho : own = 0 ∨ nx0 < own
  hl : es.length ≤ i
  hok : ∀ x ∈ es, EntOk x

set_option maxRecDepth 20000 in
theorem lowered_c {lo : Nat} {H : AH} {nx : Nat} {v : Value} {marks : List Act16} {owna : Nat} (hs : SlA nx H 5 v marks.length (a16Cells marks) owna) (hok : ∀ a ∈ marks, Act16Ok a) (hl : marks.length ≤ 100) :
    ACalls Try.prog lo 13 #[v] H nx (fun v H' nx' => nx ≤ nx' ∧ Kp (fun _ => False) nx H H' ∧ ∃ q es own, v = .pointer (some ⟨q, 0, none⟩) ∧ nx ≤ q ∧ SouA lo nx' H' q es own ∧ (own = 0 ∨ nx < own) ∧ es.length ≤ marks.length ∧ ∀ x ∈ es, EntOk x) := by
  refine ACalls.withLo fun hlo => ?_
  refine acalls_of_awp L13 Try.func13 rfl (by kernel_rfl) ?_
  obtain ⟨sa, sc, rfl⟩ := hs.form
  simp (disch := omega) only [go_sem, ↓reduceIte ]
  refine snew_c.mono fun v H1 nx1 _ ⟨q, hv, hq, hQ, hx1, hk1⟩ => ?_
  subst hv
  simp (disch := omega) only [go_sem, ↓reduceIte ]
  refine awp_loop (fun m env H2 nx2 => ∃ i es own, LoI lo nx H q (.slice sa marks.length sc) marks m env H2 nx2 i es own) marks.length ⟨0, [], 0, ⟨rfl, by omega, rfl, hx1, hk1, hQ.sou, .inl rfl, by simp, by simp⟩⟩ (fun m env H2 nx2 ⟨i, es, own, hI⟩ hn => ?_)
  obtain ⟨hm, hi, henv, hx2, hk2, hq2, ho, hle, hoks⟩ := hI
  subst henv
  by_cases hil : i < marks.length
  · obtain ⟨a, ha⟩ : ∃ a, marks[i]? = some a := ⟨_, List.getElem?_eq_getElem hil⟩
    obtain ⟨k0, b0, p0, p1, s0, s1, m0, m1⟩ := hok a (List.mem_of_getElem? ha)
    obtain ⟨g, off, cp, hv, hg⟩ := hs.open (by omega)
    cases hv
    have hls := hs.le
    have hsa := hs.kp hk2 hx2 (by simp)
    have acell : ∀ j, j < 5 → H2.c g (off + i * 5 + j) = a.cells[j]? := fun j hj => by
      have h5 := flat_get a16_five marks i a ha j hj
      rw [show off + i * 5 + j = off + (5 * i + j) by omega]
      obtain ⟨u, hu⟩ : ∃ u, a.cells[j]? = some u := ⟨_, List.getElem?_eq_getElem (by rw [a16_five]; exact hj)⟩
      rw [hu] at h5 ⊢
      exact hsa.cells.1 _ _ h5
    have a2 := acell 2 (by omega)
    have a3 := acell 3 (by omega)
    have a4 := acell 4 (by omega)
    simp only [Act16.cells, List.getElem?_cons_zero, List.getElem?_cons_succ] at a2 a3 a4
    obtain ⟨x0, x1, l0, l1, hpx⟩ := pfx_range a.p
    simp (disch := omega) only [go_sem, ↓reduceIte ]
    refine awp_draw ord13x5 (by kernel_rfl) ?_
    simp (disch := omega) only [go_sem, ↓reduceIte , ord13x5, a2, a3, a4]
    refine (pfx_c a.p p0 p1 _ _).mono fun v H3 nx3 _ ⟨hv, hx3, hk3⟩ => ?_
    subst hv
    have hq3 : SouA lo nx3 H3 q es own := hq2.kp (S := fun _ => False) hk3 hx3 (by simp) (by simp)
    have hc3 := hk3.cell0
    simp (disch := omega) only [go_sem, ↓reduceIte , hc3, a2, a3, a4]
    refine ⟨dkeep_kp hk3, ?_⟩
    by_cases hm5 : a.m = 65535
    · rw [hm5]
      refine (slower_bad hq3 (pfxA a.p) (pfxN a.p) (a.s % 4) hpx l0).mono fun v H4 nx4 _ ⟨hv, hx4, hk4⟩ => ?_
      subst hv
      simp (disch := omega) only [go_sem, ↓reduceIte ]
      refine ⟨dkeep_last (by kernel_rfl), marks.length - (i + 1), by omega, i + 1, es, own, ⟨rfl, by omega, rfl, by omega, (by repeat first | exact Kp.refl _ _ _ | refine Kp.dropT ?_ (.inl (by omega)) | refine Kp.put ?_ (.inl (by omega)) | refine Kp.new ?_ (by omega) | refine Kp.put ?_ (.inr (by omega)) | refine Kp.trans0 ?_ (by assumption) (by omega) | refine Kp.transS ?_ (by assumption) (by omega) (fun b hb hT => by first | omega | (dsimp only at hT ⊢; omega) | (simp only at hT ⊢; omega))) , hq3.kp (S := fun _ => False) hk4 hx4 (by simp) (by simp), ho, by omega, hoks⟩⟩
    · refine (slower_c hq3 (by omega) (pfxA a.p) (pfxN a.p) (a.s % 4) a.m hpx l0 hm5).mono fun v H4 nx4 _ ⟨hv, hx4, hk4, es', own', hL, hq4, ho4⟩ => ?_
      subst hv
      have hqlt := hq2.lt
      have hlen := hL.len
      simp (disch := omega) only [go_sem, ↓reduceIte ]
      refine ⟨dkeep_last (by kernel_rfl), marks.length - (i + 1), by omega, i + 1, es', own', ⟨rfl, by omega, rfl, by omega, (by repeat first | exact Kp.refl _ _ _ | refine Kp.dropT ?_ (.inl (by omega)) | refine Kp.put ?_ (.inl (by omega)) | refine Kp.new ?_ (by omega) | refine Kp.put ?_ (.inr (by omega)) | refine Kp.trans0 ?_ (by assumption) (by omega) | refine Kp.transS ?_ (by assumption) (by omega) (fun b hb hT => by first | omega | (dsimp only at hT ⊢; omega) | (simp only at hT ⊢; omega))) , hq4, by omega, by omega, hL.ok hoks (by omega) (by omega)⟩⟩
  · simp (disch := omega) only [go_sem, ↓reduceIte ]
    exact ⟨hx2, hk2, q, es, own, rfl, hq, hq2, ho, by omega, hoks⟩

def costL : List Int := [96, 1, 65535, 300, 96, 65534, 10]
set_option maxRecDepth 20000 in
theorem costs_c {lo : Nat} {H : AH} {nx : Nat} : ACalls Try.prog lo 15 #[] H nx (fun v H' nx' => ∃ d, nx ≤ d ∧ v = .slice (some ⟨d, 0, none⟩) 7 7 ∧ SlA nx' H' 1 v 7 (costL.map (Value.int .u16)) (d + 1) ∧ nx ≤ nx' ∧ Kp (fun _ => False) nx H H') := by
  refine ACalls.withLo fun hlo => ?_
  refine acalls_of_awp L15 Try.func15 rfl (by kernel_rfl) ?_
  simp (disch := omega) only [go_sem, ↓reduceIte ]
  refine buildSQ_all (n := 7) [.int .u16 96, .int .u16 1, .int .u16 65535, .int .u16 300, .int .u16 96, .int .u16 65534, .int .u16 10] sl50 zero32 (by omega) (by omega) rfl (by simp [cells_int]) fun d hd => ?_
  simp (disch := omega) only [go_sem, ↓reduceIte ]
  exact ⟨d, hd, rfl, SlA.ofNew rfl (by omega) (by simp [maxLen]) (by simp [cells_int]) (fun j _ => by simp [cells_int, costL]), by omega, (by repeat first | exact Kp.refl _ _ _ | refine Kp.dropT ?_ (.inl (by omega)) | refine Kp.put ?_ (.inl (by omega)) | refine Kp.new ?_ (by omega) | refine Kp.put ?_ (.inr (by omega)) | refine Kp.trans0 ?_ (by assumption) (by omega) | refine Kp.transS ?_ (by assumption) (by omega) (fun b hb hT => by first | omega | (dsimp only at hT ⊢; omega) | (simp only at hT ⊢; omega))) ⟩
end Go.Proofs.Ytgopmklcggoliaa
