/- RoutesSelect: where a prefix lies among what was chosen; whether all is in order. -/
import Derived.Test.YtgopmklcggoliaaW3
namespace Go.Proofs.Ytgopmklcggoliaa
open Go.RowKit
set_option linter.unusedSimpArgs false

noncomputable def selAt : Code := codeAt [.T, .T, .T, .T, .T, .T, .T, .T, .H, .T, .I, .I, .T, .H, .I, .T, .T, .T, .T, .T, .T, .H, .T, .I] ((Try.f4.body).getD .skip)
def atOk (L : List Rt) (a n : Int) (p : Int) (i : Nat) : Prop := (p = -1 ∧ ∀ (j : Nat) (y : Rt), j < i → L[j]? = some y → ¬ atR y a n) ∨ ∃ (j : Nat) (y : Rt), j < i ∧ p = j ∧ L[j]? = some y ∧ atR y a n
def atEnv (q4 q8 : Nat) (lv : Value) (n k q12 : Nat) (o : Option Rt) (q14 : Nat) (p : Int) (i : Nat) : Env := [(6, .pointer (some ⟨q4, 0, none⟩)), (8, .pointer (some ⟨q8, 0, none⟩)), (9, lv), (10, .int .i64 n), (11, .int .i64 k), (12, .pointer (some ⟨q12, 0, none⟩)), (13, .bool o.isSome), (14, .pointer (some ⟨q14, 0, none⟩)), (18, .int .i64 p), (19, .int .i64 i)]

set_option maxRecDepth 20000 in
theorem sel_at {lo nx : Nat} {H : AH} {q4 q8 q12 q14 n k : Nat} {o : Option Rt} {lv : Value} {L : List Rt} {own : Nat} {K0 : Env → AH → Nat → Prop} {Q : Exit → Env → AH → Nat → Prop}
    (hsL : SlA nx H 5 lv L.length (rtCells L) own) (hl : L.length ≤ 1000) (p0 : H.c q14 0 = some (.int .u32 (pfxA k))) (p1 : H.c q14 1 = some (.int .u8 (pfxN k)))
    (hK : ∀ p, atOk L (pfxA k) (pfxN k) p L.length → K0 (atEnv q4 q8 lv n k q12 o q14 p L.length ++ [(136, .bool false)]) H nx) :
    awp Try.prog lo L4 selAt (blockQ 6 (thenQ K0 Q)) (atEnv q4 q8 lv n k q12 o q14 (-1) 0) H nx := by
  obtain ⟨sa, sc, rfl⟩ := hsL.form
  unfold selAt Try.f4
  simp only [Option.getD_some, codeAt_H, codeAt_T, codeAt_I, codeAt_L, codeAt_C, codeAt_P, codeAt_nil]
  refine awp_loop (fun m env H1 nx1 => ∃ i p, m = L.length - i ∧ i ≤ L.length ∧ env = atEnv q4 q8 (.slice sa L.length sc) n k q12 o q14 p i ∧ H1 = H ∧ nx1 = nx ∧ atOk L (pfxA k) (pfxN k) p i) L.length ⟨0, -1, rfl, by omega, rfl, rfl, rfl, .inl ⟨rfl, fun j y hj => by omega⟩⟩ (fun m env H1 nx1 ⟨i, p, hm, hi, henv, hH, hx, hp⟩ hn => ?_)
  subst henv; subst hH; subst hx
  unfold atEnv
  by_cases hil : i < L.length
  · obtain ⟨x, hx0⟩ : ∃ x, L[i]? = some x := ⟨_, List.getElem?_eq_getElem hil⟩
    obtain ⟨gL, oL, cL, hvL, hgL⟩ := hsL.open (by omega)
    cases hvL
    have hle := hsL.le
    have z := rt_cells hsL hx0
    have z0 := z 0 (by omega)
    have z1 := z 1 (by omega)
    rw [Nat.add_zero] at z0
    simp only [Rt.cells, List.getElem?_cons_zero, List.getElem?_cons_succ] at z0 z1
    have z1' : H1.c gL (oL + i * 5 + 0 + 1) = some (.int .u8 x.len) := z1
    simp (disch := omega) only [go_sem, ↓reduceIte ]
    refine awp_draw ord4x32 (by kernel_rfl) ?_
    by_cases h : atR x (pfxA k) (pfxN k)
    · obtain ⟨h1, h2⟩ := h
      have hnext : atOk L (pfxA k) (pfxN k) i (i + 1) := .inr ⟨i, x, by omega, rfl, hx0, h1, h2⟩
      simp (disch := omega) only [go_sem, ↓reduceIte , ord4x32, z0, z1, p0, p1, h1, h2]
      exact ⟨L.length - (i + 1), by omega, i + 1, i, rfl, by omega, rfl, hnext⟩
    · have hnext : atOk L (pfxA k) (pfxN k) p (i + 1) := by
        rcases hp with ⟨h1, h2⟩ | ⟨j, y, h1, h2, h3⟩
        · refine .inl ⟨h1, fun j y hj hy => ?_⟩
          by_cases e : j = i
          · subst e; rw [hx0] at hy; cases hy; exact h
          · exact h2 j y (by omega) hy
        · exact .inr ⟨j, y, by omega, h2, h3⟩
      by_cases h1 : x.addr = pfxA k
      · have h2 : ¬ x.len = pfxN k := fun h2 => h ⟨h1, h2⟩
        simp (disch := omega) only [go_sem, ↓reduceIte , ord4x32, z0, z1, p0, p1, h1, h2]
        exact ⟨L.length - (i + 1), by omega, i + 1, p, rfl, by omega, rfl, hnext⟩
      · simp (disch := omega) only [go_sem, ↓reduceIte , ord4x32, z0, z1, p0, p1, h1]
        exact ⟨L.length - (i + 1), by omega, i + 1, p, rfl, by omega, rfl, hnext⟩
  · obtain rfl : i = L.length := by omega
    simp (disch := omega) only [go_sem, ↓reduceIte ]
    exact hK _ hp

noncomputable def selEnd : Code := codeAt [.T, .T, .T, .T, .T, .T, .T, .T, .T, .H, .T, .I] ((Try.f4.body).getD .skip)
def endEnv (lv : Value) (n i : Nat) : Env := [(9, lv), (10, .int .i64 n), (20, .int .i64 i)]
set_option maxRecDepth 20000 in
theorem sel_end {lo nx : Nat} {H : AH} {n : Nat} {lv : Value} {L : List Rt} {own : Nat} {K0 : Env → AH → Nat → Prop} {Q : Exit → Env → AH → Nat → Prop}
    (hsL : SlA nx H 5 lv L.length (rtCells L) own) (hl : L.length ≤ 1000) (hstr : L.Pairwise lessR)
    (hK : ∀ i H1 nx1, nx ≤ nx1 → Kp (fun _ => False) nx H H1 → K0 (endEnv lv n i ++ [(168, .bool false)]) H1 nx1) :
    awp Try.prog lo L4 selEnd (blockQ 8 (thenQ K0 Q)) (endEnv lv n 1) H nx := by
  obtain ⟨sa, sc, rfl⟩ := hsL.form
  unfold selEnd Try.f4
  simp only [Option.getD_some, codeAt_H, codeAt_T, codeAt_I, codeAt_L, codeAt_C, codeAt_P, codeAt_nil]
  refine awp_loop (fun m env H1 nx1 => ∃ i, m = L.length - i ∧ 1 ≤ i ∧ env = endEnv (.slice sa L.length sc) n i ∧ nx ≤ nx1 ∧ Kp (fun _ => False) nx H H1) (L.length - 1) ⟨1, rfl, by omega, rfl, Nat.le_refl _, Kp.refl _ _ _⟩ (fun m env H1 nx1 ⟨i, hm, hi, henv, hx, hk⟩ hn => ?_)
  subst henv
  unfold endEnv
  have hc := hk.cell0
  by_cases hil : i < L.length
  · obtain ⟨x, hx0⟩ : ∃ x, L[i]? = some x := ⟨_, List.getElem?_eq_getElem hil⟩
    obtain ⟨i0, rfl⟩ : ∃ i0, i = i0 + 1 := ⟨i - 1, by omega⟩
    obtain ⟨y, hy0⟩ : ∃ y, L[i0]? = some y := ⟨_, List.getElem?_eq_getElem (by omega)⟩
    have hyx : lessR y x := by
      obtain ⟨h1, rfl⟩ := List.getElem?_eq_some_iff.1 hx0
      obtain ⟨h2, rfl⟩ := List.getElem?_eq_some_iff.1 hy0
      rw [List.pairwise_iff_getElem] at hstr
      exact hstr i0 (i0 + 1) h2 h1 (by omega)
    obtain ⟨gL, oL, cL, hvL, hgL⟩ := hsL.open (by omega)
    cases hvL
    have hle := hsL.le
    have z := rt_cells hsL hx0
    have z0 := z 0 (by omega)
    have z1 := z 1 (by omega)
    have w := rt_cells hsL hy0
    have w0 := w 0 (by omega)
    have w1 := w 1 (by omega)
    rw [Nat.add_zero] at z0 w0
    simp only [Rt.cells, List.getElem?_cons_zero, List.getElem?_cons_succ] at z0 z1 w0 w1
    have e1 : ((i0 + 1 : Nat) : Int) - 1 = (i0 : Nat) := by omega
    simp (disch := omega) only [go_sem, ↓reduceIte ]
    refine awp_draw ord4x41 (by kernel_rfl) ?_
    simp (disch := omega) only [go_sem, ↓reduceIte , ord4x41, hc, z0, z1, w0, w1, e1]
    refine (ahead01_c y.addr y.len x.addr x.len _ _).mono fun v H2 nx2 _ ⟨hv, hx2, hk2⟩ => ?_
    have ht : ahd y.addr y.len x.addr x.len = true := by unfold lessR ltP at hyx; simp only [ahd, decide_eq_true_eq]; omega
    rw [ht] at hv
    subst hv
    simp (disch := omega) only [go_sem, ↓reduceIte ]
    exact ⟨dkeep_kp hk2, L.length - (i0 + 1 + 1), by omega, i0 + 1 + 1, rfl, by omega, rfl, by omega, (by repeat first | exact Kp.refl _ _ _ | refine Kp.dropT ?_ (.inl (by omega)) | refine Kp.put ?_ (.inl (by omega)) | refine Kp.new ?_ (by omega) | refine Kp.put ?_ (.inr (by omega)) | refine Kp.trans0 ?_ (by assumption) (by omega) | refine Kp.transS ?_ (by assumption) (by omega) (fun b hb hT => by first | omega | (dsimp only at hT ⊢; omega) | (simp only at hT ⊢; omega))) ⟩
  · simp (disch := omega) only [go_sem, ↓reduceIte ]
    exact hK i _ _ hx hk
end Go.Proofs.Ytgopmklcggoliaa
