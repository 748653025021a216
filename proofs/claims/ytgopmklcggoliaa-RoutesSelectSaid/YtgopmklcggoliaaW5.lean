/- RoutesSelect: all prefixes. -/
import Derived.Test.YtgopmklcggoliaaW4
namespace Go.Proofs.Ytgopmklcggoliaa
open Go.RowKit
set_option linter.unusedSimpArgs false

noncomputable def selOut : Code := codeAt [.T, .T, .T, .T, .T, .T, .T, .T, .H, .T, .I] ((Try.f4.body).getD .skip)
def outEnv (q4 q8 : Nat) (lv : Value) (n k : Nat) : Env := [(6, .pointer (some ⟨q4, 0, none⟩)), (8, .pointer (some ⟨q8, 0, none⟩)), (9, lv), (10, .int .i64 n), (11, .int .i64 k)]
structure OutI (nx0 : Nat) (H0 : AH) (q4 q8 : Nat) (lv : Value) (L : List Rt) (m : Nat) (env : Env) (H : AH) (nx : Nat) (k : Nat) : Prop where
  hm : m = 18 - k
  hk18 : k ≤ 18
  henv : env = outEnv q4 q8 lv (cntK L k) k
  hx : nx0 ≤ nx
  hk : Kp (fun _ => False) nx0 H0 H
theorem cntK_le (L : List Rt) (k : Nat) : cntK L k ≤ L.length := List.countP_le_length

set_option maxRecDepth 20000 in
set_option maxHeartbeats 100000000 in
theorem sel_out {lo nx0 : Nat} {H0 : AH} {q4 q8 : Nat} {s : Value} {us : List Tld} {ownu : Nat} {now : Int} {es0 : List Ent} {own0 : Nat} {lv : Value} {L : List Rt} {ownL : Nat} {l : List Tld} {K0 : Env → AH → Nat → Prop} {Q : Exit → Env → AH → Nat → Prop}
    (d40 : H0.c q4 0 = some s) (d41 : H0.c q4 1 = some (.int .u64 now)) (hs : SlA nx0 H0 7 s us.length (tdCells us) ownu) (hul : us.length ≤ 1000) (hQ : SouA lo nx0 H0 q8 es0 own0) (hel : es0.length ≤ 1000) (l4 : q4 < nx0) (hlo : lo ≤ nx0)
    (hlu : ∀ t, t ∈ l ↔ t ∈ us) (hu : UqT l) (hok : ∀ t ∈ l, TdOk t ∧ 0 ≤ t.metric ∧ t.metric ≤ 65535) (hw : ∀ t ∈ l, 0 ≤ t.who ∧ t.who < 8)
    (hS : SelS (l.filterMap (rtOf costL (feasE es0))) L) (hsL : SlA nx0 H0 5 lv L.length (rtCells L) ownL) (hl : L.length ≤ 1000)
    (hK : ∀ H nx, nx0 ≤ nx → Kp (fun _ => False) nx0 H0 H → K0 (outEnv q4 q8 lv (cntK L 18) 18 ++ [(59, .bool false)]) H nx) :
    awp Try.prog lo L4 selOut (blockQ 2 (thenQ K0 Q)) (outEnv q4 q8 lv 0 0) H0 nx0 := by
  obtain ⟨sa, sc, rfl⟩ := hs.form
  obtain ⟨la, lc, rfl⟩ := hsL.form
  unfold selOut Try.f4
  simp only [Option.getD_some, codeAt_H, codeAt_T, codeAt_I, codeAt_L, codeAt_C, codeAt_P, codeAt_nil]
  refine awp_loop (fun m env H nx => ∃ k, OutI nx0 H0 q4 q8 (.slice la L.length lc) L m env H nx k) 18 ⟨0, ⟨rfl, by omega, by rw [cntK_zero], Nat.le_refl _, Kp.refl _ _ _⟩⟩ (fun m env H1 nx1 ⟨k, hI⟩ hn => ?_)
  obtain ⟨hm, hk18, henv, hx1, hk1⟩ := hI
  subst henv
  unfold outEnv
  have hcl := cntK_le L k
  have hQl := hQ.lt
  by_cases hk8 : k < 18
  · obtain ⟨a0, a1, n0, n1, hpx⟩ := pfx_range (k : Int)
    simp (disch := omega) only [go_sem, ↓reduceIte ]
    intro q12 h12
    simp (disch := omega) only [go_sem, ↓reduceIte ]
    refine (pfx_c (k : Int) (by omega) (by omega) _ _).mono fun v H2 nx2 _ ⟨hv, hx2, hk2⟩ => ?_
    subst hv
    simp (disch := omega) only [go_sem, ↓reduceIte ]
    intro q14 h14
    simp (disch := omega) only [go_sem, ↓reduceIte ]
    refine (first16_c k hk8).mono fun v H3 nx3 _ ⟨hx3, hk3, j, hv, hjk, j1, j2, jf⟩ => ?_
    subst hv
    by_cases hj : j = k
    · subst hj
      simp (disch := omega) only [go_sem, ↓reduceIte ]
      have hc2 := hk2.cell0
      have hc3 := hk3.cell0
      have hls := hs.le
      have hll := hsL.le
      have hlq := hQ.q.choose_spec.2.le
      have hkS : Kp (fun _ => False) nx0 H0 H3 := (by repeat first | exact Kp.refl _ _ _ | refine Kp.dropT ?_ (.inl (by omega)) | refine Kp.put ?_ (.inl (by omega)) | refine Kp.new ?_ (by omega) | refine Kp.put ?_ (.inr (by omega)) | refine Kp.trans0 ?_ (by assumption) (by omega) | refine Kp.transS ?_ (by assumption) (by omega) (fun b hb hT => by first | omega | (dsimp only at hT ⊢; omega) | (simp only at hT ⊢; omega))) 
      have hcS := hkS.cell0
      have p0 : H3.c q14 0 = some (.int .u32 (pfxA j)) := by simp (disch := omega) only [go_sem, ↓reduceIte , hc3]
      have p1 : H3.c q14 1 = some (.int .u8 (pfxN j)) := by simp (disch := omega) only [go_sem, ↓reduceIte , hc3]
      refine sel_by (l := l) ⟨by rw [hcS _ _ l4]; exact d40, by rw [hcS _ _ l4]; exact d41, hs.kp hkS (by omega) (by simp), hul, hQ.kp hkS (by omega) (by simp) (by simp), hel, p0, p1, by omega, by omega, by omega, by omega, by omega, by omega, by omega, by omega, by omega⟩ hlu hu hok (fun t ht => (hw t ht).1) (by simp (disch := omega) only [go_sem, ↓reduceIte , hc3, hc2]) (by simp (disch := omega) only [go_sem, ↓reduceIte , hc3, hc2]) (by simp (disch := omega) only [go_sem, ↓reduceIte , hc3, hc2]) (by simp (disch := omega) only [go_sem, ↓reduceIte , hc3, hc2]) (by simp (disch := omega) only [go_sem, ↓reduceIte , hc3, hc2]) (fun env H4 nx4 o hB => ?_)
      obtain ⟨_, henv, hx4, hk4, g0, g1, g2, g3, g4, hB⟩ := hB
      subst henv
      unfold selEnv
      simp (disch := omega) only [go_sem, ↓reduceIte ]
      have hsL4 : SlA nx4 H4 5 (.slice la L.length lc) L.length (rtCells L) ownL := (hsL.kp hkS (by omega) (by simp)).kp hk4 hx4 (by intro c hc; omega)
      have hc4 := hk4.cell
      refine sel_at (o := o) hsL4 hl (by rw [hc4 _ _ (by omega) (by omega)]; exact p0) (by rw [hc4 _ _ (by omega) (by omega)]; exact p1) (fun p hp => ?_)
      unfold atEnv
      cases o with
      | none =>
        have hno := hB.nope (fun t ht => (hw t ht).2) hS
        rcases hp with ⟨rfl, _⟩ | ⟨_, y, _, _, hy, hat⟩
        · simp (disch := omega) only [go_sem, ↓reduceIte , Option.isSome_none]
          refine awp_draw ord4x34 (by kernel_rfl) ?_
          simp (maxSteps := 10000000) (disch := omega) only [go_sem, ↓reduceIte, ord4x34]
          exact ⟨18 - (j + 1), by omega, j + 1, ⟨rfl, by omega, by rw [cntK_none hno]; rfl, by omega, (by repeat first | exact Kp.refl _ _ _ | refine Kp.dropT ?_ (.inl (by omega)) | refine Kp.put ?_ (.inl (by omega)) | refine Kp.new ?_ (by omega) | refine Kp.put ?_ (.inr (by omega)) | refine Kp.trans0 ?_ (by assumption) (by omega) | refine Kp.transS ?_ (by assumption) (by omega) (fun b hb hT => by first | omega | (dsimp only at hT ⊢; omega) | (simp only at hT ⊢; omega))) ⟩⟩
        · exact absurd hat (hno y (List.mem_of_getElem? hy))
      | some x =>
        simp only [bestR, Option.getD_some] at g0 g1 g2 g3 g4
        obtain ⟨hxL, hat⟩ := hB.chosen hu (fun t ht => (hw t ht).2) hS
        obtain ⟨jx, hjx⟩ := List.getElem?_of_mem hxL
        rcases hp with ⟨_, hno⟩ | ⟨i, y, hi, rfl, hy, haty⟩
        · exact absurd hat (hno jx x (List.getElem?_eq_some_iff.1 hjx).1 hjx)
        · obtain rfl := atR_uniq hS.srt hjx hy hat haty
          rw [hjx] at hy
          cases hy
          obtain ⟨gL, oL, cL, hvL, hgL⟩ := hsL4.open (by omega)
          cases hvL
          have ld := rt_load hsL4 hjx
          unfold Rt.cells at ld
          simp (disch := omega) only [go_sem, ↓reduceIte , Option.isSome_some]
          refine awp_draw ord4x34 (by kernel_rfl) ?_
          simp (maxSteps := 10000000) (disch := omega) only [go_sem, ↓reduceIte, ord4x34, ld, g0, g1, g2, g3, g4]
          exact ⟨18 - (j + 1), by omega, j + 1, ⟨rfl, by omega, by rw [cntK_new hS.srt hxL hat jf]; rfl, by omega, (by repeat first | exact Kp.refl _ _ _ | refine Kp.dropT ?_ (.inl (by omega)) | refine Kp.put ?_ (.inl (by omega)) | refine Kp.new ?_ (by omega) | refine Kp.put ?_ (.inr (by omega)) | refine Kp.trans0 ?_ (by assumption) (by omega) | refine Kp.transS ?_ (by assumption) (by omega) (fun b hb hT => by first | omega | (dsimp only at hT ⊢; omega) | (simp only at hT ⊢; omega))) ⟩⟩
    · have hold := cntK_old (L := L) (by omega : j < k) j1 j2
      simp (disch := omega) only [go_sem, ↓reduceIte , hj]
      exact ⟨18 - (k + 1), by omega, k + 1, ⟨rfl, by omega, by rw [hold]; rfl, by omega, (by repeat first | exact Kp.refl _ _ _ | refine Kp.dropT ?_ (.inl (by omega)) | refine Kp.put ?_ (.inl (by omega)) | refine Kp.new ?_ (by omega) | refine Kp.put ?_ (.inr (by omega)) | refine Kp.trans0 ?_ (by assumption) (by omega) | refine Kp.transS ?_ (by assumption) (by omega) (fun b hb hT => by first | omega | (dsimp only at hT ⊢; omega) | (simp only at hT ⊢; omega))) ⟩⟩
  · obtain rfl : k = 18 := by omega
    simp (disch := omega) only [go_sem, ↓reduceIte ]
    exact hK _ _ hx1 hk1
end Go.Proofs.Ytgopmklcggoliaa
