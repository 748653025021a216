/- IdealSinks: its loop. -/
import Derived.Test.YtgafnliohmdmoaaH5
namespace Go.Proofs.Ytgafnliohmdmoaa
open Go.RowKit Go.Sort
set_option linter.unusedSimpArgs false

set_option maxHeartbeats 8000000 in
set_option maxRecDepth 20000 in
theorem sk_loop {lo nx0 : Nat} {H0 : AH} {va : Value} {xs : List Int} {p : Nat} {cs : List Chg} {own owna : Nat} {t : Int} (hh : HistOk cs t) (hl : cs.length ≤ 60) (hva : SlA nx0 H0 1 va xs.length (xs.map fun b => Value.int .u8 b) owna) (hao : owna ≠ p + 1) (hb8 : ∀ x ∈ xs, 0 ≤ x ∧ x < 256) (hal : xs.length ≤ 30) {K0 : Env → AH → Nat → Prop} {Q : Exit → Env → AH → Nat → Prop} {env : Env} {H : AH} {nx : Nat} (h0 : SkI lo nx0 H0 va xs.length p cs own xs.length env H nx 0 0 0)
    (hK : ∀ env H nx c safe, SkI lo nx0 H0 va xs.length p cs own 0 env H nx xs.length c safe → K0 (env ++ [(35, .bool false)]) H nx) : awp Try.prog lo L3 skLoop (blockQ 0 (thenQ K0 Q)) env H nx := by
  have hcode : skLoop = codeAt [.T, .T, .T, .T, .T, .T, .T, .H, .T, .I] ((Try.f3.body).getD .skip) := rfl
  simp only [Try.f3, Option.getD_some, codeAt_H, codeAt_T, codeAt_I, codeAt_L, codeAt_C, codeAt_P, codeAt_nil] at hcode
  rw [hcode]
  clear hcode
  have hskb : skBack = codeAt [.T, .T, .T, .T, .T, .T, .T, .H, .T, .I, .I, .T, .H, .I, .T, .T] ((Try.f3.body).getD .skip) := rfl
  simp only [Try.f3, Option.getD_some, codeAt_H, codeAt_T, codeAt_I, codeAt_L, codeAt_C, codeAt_P, codeAt_nil] at hskb
  refine awp_loopX (fun m env H nx => ∃ i c safe, SkI lo nx0 H0 va xs.length p cs own m env H nx i c safe) xs.length ⟨0, 0, 0, h0⟩ (fun env H nx => ∃ e c safe, SkI lo nx0 H0 va xs.length p cs own 0 e H nx xs.length c safe ∧ env = e ++ [(35, .bool false)]) (fun K hK m env H nx ⟨i, c, safe, hI⟩ hn => ?_) (fun env H nx ⟨e, c, safe, hI, he⟩ => by subst he; exact hK _ _ _ _ _ hI)
  obtain ⟨hm, hi, henv, hx, hk, I, hc, hs⟩ := hI
  subst henv
  obtain ⟨aa, ac, hvav⟩ := hva.form
  have hIlt := I.lt
  have hIge := I.ge
  by_cases hlt : i < xs.length
  · obtain ⟨g, off, cap, hv, hgo⟩ := hva.open (by omega)
    have hgle := hva.le
    rw [hvav] at hv
    simp only [Value.slice.injEq, true_and] at hv
    obtain ⟨rfl, rfl⟩ := hv
    have hva2 := hva
    rw [hvav] at hva2
    have ci : H.c g (off + i) = some (.int .u8 xs[i]) := by
      rw [(hk g (by omega) (by omega)).1]
      exact hva2.cells.1 i _ (by rw [List.getElem?_map, List.getElem?_eq_getElem hlt]; rfl)
    obtain ⟨x0, x1⟩ := hb8 _ (List.getElem_mem hlt)
    generalize xs[i] = x at ci x0 x1
    have fin : ∀ (c' : Nat) (safe' : Int) (H2 : AH) (nx2 : Nat), c' ≤ cs.length → safe' ≤ cs.length → nx ≤ nx2 → Kp (fun b => b = p) nx H H2 → IdealA lo nx2 H2 p cs own safe' c' → ∃ m', m' < m ∧ ∃ i' c safe, SkI lo nx0 H0 (.slice (some ⟨g, off, none⟩) xs.length ac) xs.length p cs own m' [(1, .slice (some ⟨g, off, none⟩) xs.length ac), (6, .pointer (some ⟨p, 0, none⟩)), (7, .int .u64 (horF cs c')), (8, .int .i64 c'), (9, .int .i64 (i + 1))] H2 nx2 i' c safe := fun c' safe' H2 nx2 h1 h2 h3 h4 h5 =>
      ⟨xs.length - (i + 1), by omega, i + 1, c', safe', ⟨rfl, by omega, by simp, by omega, hk.trans (U := fun b => b = p) h4 hx (fun _ _ e => e) (fun _ _ e => e), h5, h1, h2⟩⟩
    rcases (by omega : x % 4 = 0 ∨ x % 4 = 1 ∨ x % 4 = 2 ∨ x % 4 = 3) with e | e | e | e
    · simp (disch := omega) only [go_sem, ↓reduceIte , hvav, ci, e]
      refine (ifold_c I (x / 4)).mono fun v H2 nx2 _ ⟨hx2, hk2, hf⟩ => ?_
      obtain ⟨c', safe', h1, h2, h3, I2, hv⟩ : ∃ (c' : Nat) (safe' : Int), c ≤ c' ∧ c' ≤ cs.length ∧ safe' ≤ cs.length ∧ IdealA lo nx2 H2 p cs own safe' c' ∧ (v = .int .i64 0 ∨ v = .int .i64 1) := by
        rcases hf with ⟨f1, f2, hv, I2⟩ | ⟨_, hv, I2⟩
        · exact ⟨(x / 4).toNat, cs.length, by omega, by omega, Int.le_refl _, by rw [Int.toNat_of_nonneg (by omega)]; exact I2, .inl hv⟩
        · exact ⟨c, safe, Nat.le_refl _, hc, hs, I2, .inr hv⟩
      have hvo : v.oneCell' = true := by rcases hv with rfl | rfl <;> rfl
      generalize hG : awp Try.prog lo L3 = G
      simp (disch := omega) only [go_sem, ↓reduceIte , hvo]
      rw [← hG, ← hskb]
      exact sk_back hh hl h1 h2 h3 I2 (fun H3 nx3 hx3 hk3 => by
        simp (disch := omega) only [go_sem, ↓reduceIte ]
        exact fin c' _ _ _ h2 h3 (by omega) (hk2.trans (U := fun b => b = p) hk3 hx2 (fun _ _ e => e) (fun _ _ e => e.elim)) (I2.kp hk3 hx3 (by simp) (by simp)))
    · simp (disch := omega) only [go_sem, ↓reduceIte , hvav, ci, e]
      refine (ifold_c I (x / 4)).mono fun v H2 nx2 _ ⟨hx2, hk2, hf⟩ => ?_
      obtain ⟨c', safe', h1, h2, h3, I2, hv⟩ : ∃ (c' : Nat) (safe' : Int), c ≤ c' ∧ c' ≤ cs.length ∧ safe' ≤ cs.length ∧ IdealA lo nx2 H2 p cs own safe' c' ∧ (v = .int .i64 0 ∨ v = .int .i64 1) := by
        rcases hf with ⟨f1, f2, hv, I2⟩ | ⟨_, hv, I2⟩
        · exact ⟨(x / 4).toNat, cs.length, by omega, by omega, Int.le_refl _, by rw [Int.toNat_of_nonneg (by omega)]; exact I2, .inl hv⟩
        · exact ⟨c, safe, Nat.le_refl _, hc, hs, I2, .inr hv⟩
      have hvo : v.oneCell' = true := by rcases hv with rfl | rfl <;> rfl
      generalize hG : awp Try.prog lo L3 = G
      simp (disch := omega) only [go_sem, ↓reduceIte , hvo]
      rw [← hG, ← hskb]
      exact sk_back hh hl h1 h2 h3 I2 (fun H3 nx3 hx3 hk3 => by
        simp (disch := omega) only [go_sem, ↓reduceIte ]
        exact fin c' _ _ _ h2 h3 (by omega) (hk2.trans (U := fun b => b = p) hk3 hx2 (fun _ _ e => e) (fun _ _ e => e.elim)) (I2.kp hk3 hx3 (by simp) (by simp)))
    · simp (disch := omega) only [go_sem, ↓reduceIte , hvav, ci, e]
      refine (isync_c I).mono fun v H2 nx2 _ ⟨hv, I2, hx2, hk2⟩ => ?_
      subst hv
      generalize hG : awp Try.prog lo L3 = G
      simp (disch := omega) only [go_sem, ↓reduceIte ]
      rw [← hG, ← hskb]
      exact sk_back hh hl (Nat.le_refl c) hc (Int.le_refl _) I2 (fun H3 nx3 hx3 hk3 => by
        simp (disch := omega) only [go_sem, ↓reduceIte ]
        exact fin c _ _ _ hc (Int.le_refl _) (by omega) (hk2.trans (U := fun b => b = p) hk3 hx2 (fun _ _ e => e) (fun _ _ e => e.elim)) (I2.kp hk3 hx3 (by simp) (by simp)))
    · simp (disch := omega) only [go_sem, ↓reduceIte , hvav, ci, e]
      refine (ilen_c I).mono fun v H1 nx1 _ ⟨hv, hH, hx1⟩ => ?_
      subst hv; subst hH; subst hx1
      simp (disch := omega) only [go_sem, ↓reduceIte ]
      refine (ifell_c I (by omega) cs.length (x / 4)).mono fun v H2 nx2 _ ⟨hx2, hk2, hf⟩ => ?_
      obtain ⟨c', safe', h1, h2, h3, I2, hv⟩ : ∃ (c' : Nat) (safe' : Int), c ≤ c' ∧ c' ≤ cs.length ∧ safe' ≤ cs.length ∧ IdealA lo nx2 H2 p cs own safe' c' ∧ (v = .int .i64 0 ∨ v = .int .i64 1) := by
        rcases hf with ⟨_, _, f1, f2, hv, I2⟩ | ⟨_, hv, I2⟩
        · rw [Int.toNat_natCast, List.take_length] at I2
          exact ⟨(x / 4).toNat, cs.length, by omega, by omega, Int.le_refl _, by rw [Int.toNat_of_nonneg (by omega)]; exact I2, .inl hv⟩
        · exact ⟨c, safe, Nat.le_refl _, hc, hs, I2, .inr hv⟩
      have hvo : v.oneCell' = true := by rcases hv with rfl | rfl <;> rfl
      generalize hG : awp Try.prog lo L3 = G
      simp (disch := omega) only [go_sem, ↓reduceIte , hvo]
      rw [← hG, ← hskb]
      exact sk_back hh hl h1 h2 h3 I2 (fun H3 nx3 hx3 hk3 => by
        simp (disch := omega) only [go_sem, ↓reduceIte ]
        exact fin c' _ _ _ h2 h3 (by omega) (hk2.trans (U := fun b => b = p) hk3 hx2 (fun _ _ e => e) (fun _ _ e => e.elim)) (I2.kp hk3 hx3 (by simp) (by simp)))
  · have ei : i = xs.length := by omega
    subst ei
    simp (disch := omega) only [go_sem, ↓reduceIte , hvav]
    refine hK _ _ _ ⟨_, c, safe, ⟨by omega, by omega, rfl, hx, hk, I, hc, hs⟩, ?_⟩
    rw [hvav]
    rfl
end Go.Proofs.Ytgafnliohmdmoaa
