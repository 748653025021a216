/- RoutesSelect: the best of a prefix, neighbor by neighbor. -/
import Derived.Test.YtgopmklcggoliaaW2
import Derived.Test.YtgopmklcggoliaaK1
namespace Go.Proofs.Ytgopmklcggoliaa
open Go.RowKit
set_option linter.unusedSimpArgs false

noncomputable def selLoop : Code := codeAt [.T, .T, .T, .T, .T, .T, .T, .T, .H, .T, .I, .I, .T, .H, .I, .T, .T, .T, .T, .H, .T, .I] ((Try.f4.body).getD .skip)
def bestR (o : Option Rt) : Rt := o.getD ⟨0, 0, 0, 0, 0⟩
/-- What is known where a prefix is begun. -/
structure SelH (lo nx0 : Nat) (H0 : AH) (q4 q8 q12 q14 : Nat) (s : Value) (us : List Tld) (ownu : Nat) (now : Int) (es0 : List Ent) (own0 : Nat) (k : Nat) : Prop where
  d40 : H0.c q4 0 = some s
  d41 : H0.c q4 1 = some (.int .u64 now)
  hs : SlA nx0 H0 7 s us.length (tdCells us) ownu
  hul : us.length ≤ 1000
  hQ : SouA lo nx0 H0 q8 es0 own0
  hel : es0.length ≤ 1000
  p0 : H0.c q14 0 = some (.int .u32 (pfxA k))
  p1 : H0.c q14 1 = some (.int .u8 (pfxN k))
  l4 : q4 < nx0
  l12 : q12 < nx0
  l14 : q14 < nx0
  lo12 : lo ≤ q12
  n4 : q4 < q12
  n8 : q8 < q12
  n14 : q12 < q14
  nu : ownu ≤ q12
  no : own0 ≤ q12
def selEnv (q4 q8 : Nat) (lv : Value) (n k q12 : Nat) (o : Option Rt) (q14 b : Nat) : Env := [(6, .pointer (some ⟨q4, 0, none⟩)), (8, .pointer (some ⟨q8, 0, none⟩)), (9, lv), (10, .int .i64 n), (11, .int .i64 k), (12, .pointer (some ⟨q12, 0, none⟩)), (13, .bool o.isSome), (14, .pointer (some ⟨q14, 0, none⟩)), (15, .int .i64 b)]
structure ByI (nx0 : Nat) (H0 : AH) (q4 q8 : Nat) (lv : Value) (n k q12 q14 : Nat) (es0 : List Ent) (l : List Tld) (env : Env) (H : AH) (nx : Nat) (b : Nat) (o : Option Rt) : Prop where
  hb : b ≤ 8
  henv : env = selEnv q4 q8 lv n k q12 o q14 b
  hx : nx0 ≤ nx
  hk : Kp (fun c => c = q12) nx0 H0 H
  b0 : H.c q12 0 = some (.int .u32 (bestR o).addr)
  b1 : H.c q12 1 = some (.int .u8 (bestR o).len)
  b2 : H.c q12 2 = some (.int .i64 (bestR o).via)
  b3 : H.c q12 3 = some (.int .u16 (bestR o).metric)
  b4 : H.c q12 4 = some (.int .u16 (bestR o).seq)
  hB : BestI costL (feasE es0) l (pfxA k) (pfxN k) b o

theorem rtOf_none_far {es0 : List Ent} {t : Tld} {b : Nat} (hw : t.who = b) (h : costI b = 65535 ∨ 65535 ≤ t.metric + costI b ∨ feasE es0 t = false) : rtOf costL (feasE es0) t = none := by
  unfold rtOf
  rw [hw, Int.toNat_natCast]
  unfold costI at h
  cases hc : costL[b]? with
  | none => rfl
  | some c =>
    rw [hc] at h
    simp only [Option.getD_some] at h
    simp only
    rw [if_pos h]
theorem rtOf_some_far {es0 : List Ent} {t : Tld} {b : Nat} (hw : t.who = b) (h1 : costI b ≠ 65535) (h2 : t.metric + costI b < 65535) (h3 : feasE es0 t = true) : rtOf costL (feasE es0) t = some ⟨t.addr, t.len, t.who, t.metric + costI b, t.seq⟩ := by
  unfold rtOf
  rw [hw, Int.toNat_natCast]
  unfold costI at *
  cases hc : costL[b]? with
  | none => rw [hc] at h1; exact absurd rfl h1
  | some c =>
    rw [hc] at h1 h2
    simp only [Option.getD_some] at *
    rw [if_neg (by rw [h3]; simp; omega)]

theorem costI_range (b : Nat) : 0 ≤ costI b ∧ costI b ≤ 65535 := by
  unfold costI costL
  match b with
  | 0 | 1 | 2 | 3 | 4 | 5 | 6 => simp
  | n + 7 => simp

set_option maxRecDepth 20000 in
set_option maxHeartbeats 100000000 in
theorem sel_by {lo nx0 : Nat} {H0 : AH} {q4 q8 q12 q14 : Nat} {s : Value} {us : List Tld} {ownu : Nat} {now : Int} {es0 : List Ent} {own0 : Nat} {n k : Nat} {lv : Value} {l : List Tld} {K0 : Env → AH → Nat → Prop} {Q : Exit → Env → AH → Nat → Prop}
    (h : SelH lo nx0 H0 q4 q8 q12 q14 s us ownu now es0 own0 k) (hlu : ∀ t, t ∈ l ↔ t ∈ us) (hu : UqT l) (hok : ∀ t ∈ l, TdOk t ∧ 0 ≤ t.metric ∧ t.metric ≤ 65535) (hw : ∀ t ∈ l, 0 ≤ t.who)
    (b0 : H0.c q12 0 = some (.int .u32 0)) (b1 : H0.c q12 1 = some (.int .u8 0)) (b2 : H0.c q12 2 = some (.int .i64 0)) (b3 : H0.c q12 3 = some (.int .u16 0)) (b4 : H0.c q12 4 = some (.int .u16 0))
    (hK : ∀ env H nx o, ByI nx0 H0 q4 q8 lv n k q12 q14 es0 l env H nx 8 o → K0 (env ++ [(70, .bool false)]) H nx) :
    awp Try.prog lo L4 selLoop (blockQ 4 (thenQ K0 Q)) (selEnv q4 q8 lv n k q12 none q14 0) H0 nx0 := by
  obtain ⟨d40, d41, hs, hul, hQ, hel, p0, p1, l4, l12, l14, lo12, n4, n8, n14, nu, no⟩ := h
  obtain ⟨sa, sc, rfl⟩ := hs.form
  unfold selLoop Try.f4
  simp only [Option.getD_some, codeAt_H, codeAt_T, codeAt_I, codeAt_L, codeAt_C, codeAt_P, codeAt_nil]
  refine awp_loop (fun m env H nx => ∃ b o, m = 8 - b ∧ ByI nx0 H0 q4 q8 lv n k q12 q14 es0 l env H nx b o) 8 ⟨0, none, rfl, ⟨by omega, rfl, Nat.le_refl _, Kp.refl _ _ _, b0, b1, b2, b3, b4, BestI.start hw⟩⟩ (fun m env H nx ⟨b, o, hm, hI⟩ hn => ?_)
  have hI0 := hI
  obtain ⟨hb, henv, hx, hk, g0, g1, g2, g3, g4, hB⟩ := hI
  subst henv
  have hc := hk.cell
  have hso : (Value.bool o.isSome).oneCell' = true := rfl
  unfold selEnv
  by_cases hb8 : b < 8
  · have e40 := d40
    have hs1 : SlA nx H 7 (.slice sa us.length sc) us.length (tdCells us) ownu := hs.kp hk hx (by intro c hc; omega)
    have hQ1 : SouA lo nx H q8 es0 own0 := hQ.kp hk hx (by omega) (by intro c hc; omega)
    have hQl := hQ1.lt
    simp (disch := omega) only [go_sem, ↓reduceIte , hc, d40, d41, p0, p1]
    refine (tfind_c hs1 (by omega) now (pfxA k) (pfxN k) b).mono fun v H1 nx1 _ ⟨hv, hx1, hk1⟩ => ?_
    rcases hv with ⟨j, u, hj, hju, rfl, _⟩ | ⟨hnone, rfl⟩
    · have hul0 : u ∈ l := (hlu u).2 (List.mem_of_getElem? hj)
      obtain ⟨hu0, hu1, hu2⟩ := hok u hul0
      have hju' := hju
      simp only [hitC, Bool.and_eq_true, decide_eq_true_eq] at hju'
      obtain ⟨⟨a1, a2⟩, a3⟩ := hju'
      have huniq : ∀ t ∈ l, atT t (pfxA k) (pfxN k) → t.who = b → t = u := fun t ht hp hb' => told_same2 hu hul0 ht ((hitT_iff _ _).2 (by unfold atT at hp; omega))
      have hc1 := hk1.cell0
      have hQ2 : SouA lo nx1 H1 q8 es0 own0 := hQ1.kp hk1 hx1 (by simp) (by simp)
      have hs2 : SlA nx1 H1 7 (.slice sa us.length sc) us.length (tdCells us) ownu := hs1.kp hk1 hx1 (by simp)
      obtain ⟨gu, ou, cu, hvu, hgu⟩ := hs.open (by have := (List.getElem?_eq_some_iff.1 hj).1; omega)
      cases hvu
      have hle := hs.le
      have hjl := (List.getElem?_eq_some_iff.1 hj).1
      have y4 := td_cells hs hj 4 (by omega)
      have y5 := td_cells hs hj 5 (by omega)
      simp only [Tld.cells, List.getElem?_cons_zero, List.getElem?_cons_succ] at y4 y5
      have y5' : H0.c gu (ou + j * 7 + 4 + 1) = some (.int .u16 u.metric) := y5
      simp (disch := omega) only [go_sem, ↓reduceIte ]
      refine awp_draw ord4x23 (by kernel_rfl) ?_
      simp (maxSteps := 10000000) (disch := omega) only [go_sem, ↓reduceIte, ord4x23, hc1, hc, d40, d41, y4, y5', p0, p1]
      refine (cost16_c b hb8).mono fun v H2 nx2 _ ⟨hv, hx2, hk2⟩ => ?_
      subst hv
      have hc2 := hk2.cell0
      have hskip : (costI b = 65535 ∨ 65535 ≤ u.metric + costI b ∨ feasE es0 u = false) → ∀ t ∈ l, atT t (pfxA k) (pfxN k) → t.who = b → rtOf costL (feasE es0) t = none := fun h t ht hp hb' => by
        rw [huniq t ht hp hb']; exact rtOf_none_far a3 h
      obtain ⟨cI0, cI1⟩ := costI_range b
      by_cases h65 : costI b = 65535
      · simp (maxSteps := 10000000) (disch := omega) only [go_sem, ↓reduceIte, h65, hc2, hc1, hc, d40, d41, y4, y5', p0, p1]
        refine ⟨dkeep_kp hk2, .inr (.inr (dkeep_kp hk2)), ?_⟩
        exact ⟨8 - (b + 1), by omega, b + 1, o, rfl, ⟨by omega, rfl, by omega, (by repeat first | exact Kp.refl _ _ _ | refine Kp.dropT ?_ (.inl (by omega)) | refine Kp.put ?_ (.inl (by omega)) | refine Kp.new ?_ (by omega) | refine Kp.put ?_ (.inr (by omega)) | refine Kp.trans0 ?_ (by assumption) (by omega) | refine Kp.transS ?_ (by assumption) (by omega) (fun b hb hT => by first | omega | (dsimp only at hT ⊢; omega) | (simp only at hT ⊢; omega))) , by simp (disch := omega) only [go_sem, ↓reduceIte , hc2, hc1, g0], by simp (disch := omega) only [go_sem, ↓reduceIte , hc2, hc1, g1], by simp (disch := omega) only [go_sem, ↓reduceIte , hc2, hc1, g2], by simp (disch := omega) only [go_sem, ↓reduceIte , hc2, hc1, g3], by simp (disch := omega) only [go_sem, ↓reduceIte , hc2, hc1, g4], hB.skip (hskip (.inl h65))⟩⟩
      · simp (maxSteps := 10000000) (disch := omega) only [go_sem, ↓reduceIte, h65, hc2, hc1, hc, d40, d41, y4, y5', p0, p1]
        refine ⟨dkeep_kp hk2, ?_⟩
        have hQ3 : SouA lo nx2 H2 q8 es0 own0 := hQ2.kp hk2 hx2 (by simp) (by simp)
        refine (sfeas_c hQ3 (by omega) (pfxA k) (pfxN k) u.seq u.metric).mono fun v H3 nx3 _ ⟨hv, hx3, hk3⟩ => ?_
        have hfe : feasR es0 (pfxA k) (pfxN k) u.seq u.metric = feasE es0 u := by unfold feasE; rw [a1, a2]
        rw [hfe] at hv
        have hc3 := hk3.cell0
        cases hf : feasE es0 u with
        | false =>
          rw [hf] at hv
          subst hv
          simp (maxSteps := 10000000) (disch := omega) only [go_sem, ↓reduceIte]
          refine ⟨dkeep_kp (hk2.trans0 hk3 hx2), ?_⟩
          exact ⟨8 - (b + 1), by omega, b + 1, o, rfl, ⟨by omega, rfl, by omega, (by repeat first | exact Kp.refl _ _ _ | refine Kp.dropT ?_ (.inl (by omega)) | refine Kp.put ?_ (.inl (by omega)) | refine Kp.new ?_ (by omega) | refine Kp.put ?_ (.inr (by omega)) | refine Kp.trans0 ?_ (by assumption) (by omega) | refine Kp.transS ?_ (by assumption) (by omega) (fun b hb hT => by first | omega | (dsimp only at hT ⊢; omega) | (simp only at hT ⊢; omega))) , by simp (disch := omega) only [go_sem, ↓reduceIte , hc3, hc2, hc1, g0], by simp (disch := omega) only [go_sem, ↓reduceIte , hc3, hc2, hc1, g1], by simp (disch := omega) only [go_sem, ↓reduceIte , hc3, hc2, hc1, g2], by simp (disch := omega) only [go_sem, ↓reduceIte , hc3, hc2, hc1, g3], by simp (disch := omega) only [go_sem, ↓reduceIte , hc3, hc2, hc1, g4], hB.skip (hskip (.inr (.inr hf)))⟩⟩
        | true =>
          rw [hf] at hv
          subst hv
          simp (maxSteps := 10000000) (disch := omega) only [go_sem, ↓reduceIte]
          refine ⟨dkeep_kp (hk2.trans0 hk3 hx2), ?_⟩
          refine awp_draw ord4x24 (by kernel_rfl) ?_
          simp (maxSteps := 10000000) (disch := omega) only [go_sem, ↓reduceIte, ord4x24, hc3, hc2, hc1, hc, d40, d41, y4, y5', p0, p1]
          refine (cost16_c b hb8).mono fun v H4 nx4 _ ⟨hv, hx4, hk4⟩ => ?_
          subst hv
          have hc4 := hk4.cell0
          simp (maxSteps := 10000000) (disch := omega) only [go_sem, ↓reduceIte, hc4, hc3, hc2, hc1, hc, d40, d41, y4, y5', p0, p1]
          refine ⟨dkeep_kp hk4, ?_⟩
          by_cases hfar : u.metric + costI b < 65535
          · have hz := rtOf_some_far a3 h65 hfar hf
            rw [a1, a2, a3] at hz
            cases o with
            | none =>
              simp (maxSteps := 10000000) (disch := omega) only [go_sem, ↓reduceIte, hfar, Option.isSome_none]
              refine awp_draw ord4x26 (by kernel_rfl) ?_
              simp (maxSteps := 10000000) (disch := omega) only [go_sem, ↓reduceIte, ord4x26, hc4, hc3, hc2, hc1, hc, d40, d41, y4, y5', p0, p1]
              refine ⟨?_, ?_, 8 - (b + 1), by omega, b + 1, some ⟨pfxA k, pfxN k, b, u.metric + costI b, u.seq⟩, rfl, ⟨by omega, rfl, by omega, (by repeat first | exact Kp.refl _ _ _ | refine Kp.dropT ?_ (.inl (by omega)) | refine Kp.put ?_ (.inl (by omega)) | refine Kp.new ?_ (by omega) | refine Kp.put ?_ (.inr (by omega)) | refine Kp.trans0 ?_ (by assumption) (by omega) | refine Kp.transS ?_ (by assumption) (by omega) (fun b hb hT => by first | omega | (dsimp only at hT ⊢; omega) | (simp only at hT ⊢; omega))) , by simp (disch := omega) only [go_sem, ↓reduceIte , bestR, Option.getD_some], by simp (disch := omega) only [go_sem, ↓reduceIte , bestR, Option.getD_some], by simp (disch := omega) only [go_sem, ↓reduceIte , bestR, Option.getD_some], by simp (disch := omega) only [go_sem, ↓reduceIte , bestR, Option.getD_some], by simp (disch := omega) only [go_sem, ↓reduceIte , bestR, Option.getD_some], hB.take hu hul0 ⟨a1, a2⟩ a3 hz (fun x hx => by cases hx)⟩⟩
              all_goals first | exact dkeep_last (by kernel_rfl) | simp [g0, g1, g2, g3, g4, hc1, hc2, hc3, hc4]
            | some x =>
              simp only [bestR, Option.getD_some] at g0 g1 g2 g3 g4
              obtain ⟨xr0, xr1⟩ : 0 ≤ x.metric ∧ x.metric < 65535 := by
                obtain ⟨_, ⟨t, ht, _, hx⟩, _⟩ := hB.one x rfl
                obtain ⟨c, hcc, _, hc2, hc3⟩ := (rtOf_cho hx).c
                have hc1 : ∀ c ∈ costL, 1 ≤ c := by simp [costL]
                have := hc1 c (List.mem_of_getElem? hcc)
                have := (hok t ht).2.1
                omega
              by_cases hlt : u.metric + costI b < x.metric
              · simp (maxSteps := 10000000) (disch := omega) only [go_sem, ↓reduceIte, hfar, hlt, Option.isSome_some, hc4, hc3, hc2, hc1, g3]
                refine awp_draw ord4x26 (by kernel_rfl) ?_
                simp (maxSteps := 10000000) (disch := omega) only [go_sem, ↓reduceIte, ord4x26, hc4, hc3, hc2, hc1, hc, d40, d41, y4, y5', p0, p1]
                refine ⟨?_, ?_, 8 - (b + 1), by omega, b + 1, some ⟨pfxA k, pfxN k, b, u.metric + costI b, u.seq⟩, rfl, ⟨by omega, rfl, by omega, (by repeat first | exact Kp.refl _ _ _ | refine Kp.dropT ?_ (.inl (by omega)) | refine Kp.put ?_ (.inl (by omega)) | refine Kp.new ?_ (by omega) | refine Kp.put ?_ (.inr (by omega)) | refine Kp.trans0 ?_ (by assumption) (by omega) | refine Kp.transS ?_ (by assumption) (by omega) (fun b hb hT => by first | omega | (dsimp only at hT ⊢; omega) | (simp only at hT ⊢; omega))) , by simp (disch := omega) only [go_sem, ↓reduceIte , bestR, Option.getD_some], by simp (disch := omega) only [go_sem, ↓reduceIte , bestR, Option.getD_some], by simp (disch := omega) only [go_sem, ↓reduceIte , bestR, Option.getD_some], by simp (disch := omega) only [go_sem, ↓reduceIte , bestR, Option.getD_some], by simp (disch := omega) only [go_sem, ↓reduceIte , bestR, Option.getD_some], hB.take hu hul0 ⟨a1, a2⟩ a3 hz (fun y hy => by cases hy; exact hlt)⟩⟩
                all_goals first | exact dkeep_last (by kernel_rfl) | simp [g0, g1, g2, g3, g4, hc1, hc2, hc3, hc4]
              · simp (maxSteps := 10000000) (disch := omega) only [go_sem, ↓reduceIte, hfar, hlt, Option.isSome_some, hc4, hc3, hc2, hc1, g3]
                exact ⟨8 - (b + 1), by omega, b + 1, some x, rfl, ⟨by omega, rfl, by omega, (by repeat first | exact Kp.refl _ _ _ | refine Kp.dropT ?_ (.inl (by omega)) | refine Kp.put ?_ (.inl (by omega)) | refine Kp.new ?_ (by omega) | refine Kp.put ?_ (.inr (by omega)) | refine Kp.trans0 ?_ (by assumption) (by omega) | refine Kp.transS ?_ (by assumption) (by omega) (fun b hb hT => by first | omega | (dsimp only at hT ⊢; omega) | (simp only at hT ⊢; omega))) , by simp (disch := omega) only [go_sem, ↓reduceIte , hc4, hc3, hc2, hc1, g0, bestR, Option.getD_some], by simp (disch := omega) only [go_sem, ↓reduceIte , hc4, hc3, hc2, hc1, g1, bestR, Option.getD_some], by simp (disch := omega) only [go_sem, ↓reduceIte , hc4, hc3, hc2, hc1, g2, bestR, Option.getD_some], by simp (disch := omega) only [go_sem, ↓reduceIte , hc4, hc3, hc2, hc1, g3, bestR, Option.getD_some], by simp (disch := omega) only [go_sem, ↓reduceIte , hc4, hc3, hc2, hc1, g4, bestR, Option.getD_some], hB.keep (fun t ht hp hb' z hz' => by rw [huniq t ht hp hb', hz] at hz'; cases hz'; simp only; omega)⟩⟩
          · simp (maxSteps := 10000000) (disch := omega) only [go_sem, ↓reduceIte, hfar]
            exact ⟨8 - (b + 1), by omega, b + 1, o, rfl, ⟨by omega, rfl, by omega, (by repeat first | exact Kp.refl _ _ _ | refine Kp.dropT ?_ (.inl (by omega)) | refine Kp.put ?_ (.inl (by omega)) | refine Kp.new ?_ (by omega) | refine Kp.put ?_ (.inr (by omega)) | refine Kp.trans0 ?_ (by assumption) (by omega) | refine Kp.transS ?_ (by assumption) (by omega) (fun b hb hT => by first | omega | (dsimp only at hT ⊢; omega) | (simp only at hT ⊢; omega))) , by simp (disch := omega) only [go_sem, ↓reduceIte , hc4, hc3, hc2, hc1, g0], by simp (disch := omega) only [go_sem, ↓reduceIte , hc4, hc3, hc2, hc1, g1], by simp (disch := omega) only [go_sem, ↓reduceIte , hc4, hc3, hc2, hc1, g2], by simp (disch := omega) only [go_sem, ↓reduceIte , hc4, hc3, hc2, hc1, g3], by simp (disch := omega) only [go_sem, ↓reduceIte , hc4, hc3, hc2, hc1, g4], hB.skip (hskip (.inr (.inl (by omega))))⟩⟩
    · have hskip : ∀ t ∈ l, atT t (pfxA k) (pfxN k) → t.who = b → rtOf costL (feasE es0) t = none := fun t ht hp hb' => by
        have := hnone t ((hlu t).1 ht)
        have h2 : hitC (pfxA k) (pfxN k) b t = true := by simp [hitC, hp.1, hp.2, hb']
        rw [h2] at this; cases this
      simp (disch := omega) only [go_sem, ↓reduceIte ]
      refine awp_draw ord4x23 (by kernel_rfl) ?_
      simp (maxSteps := 10000000) (disch := omega) only [go_sem, ↓reduceIte, ord4x23]
      exact ⟨8 - (b + 1), by omega, b + 1, o, rfl, ⟨by omega, rfl, by omega, (by repeat first | exact Kp.refl _ _ _ | refine Kp.dropT ?_ (.inl (by omega)) | refine Kp.put ?_ (.inl (by omega)) | refine Kp.new ?_ (by omega) | refine Kp.put ?_ (.inr (by omega)) | refine Kp.trans0 ?_ (by assumption) (by omega) | refine Kp.transS ?_ (by assumption) (by omega) (fun b hb hT => by first | omega | (dsimp only at hT ⊢; omega) | (simp only at hT ⊢; omega))) , by simp (disch := omega) only [go_sem, ↓reduceIte , hk1.cell0, g0], by simp (disch := omega) only [go_sem, ↓reduceIte , hk1.cell0, g1], by simp (disch := omega) only [go_sem, ↓reduceIte , hk1.cell0, g2], by simp (disch := omega) only [go_sem, ↓reduceIte , hk1.cell0, g3], by simp (disch := omega) only [go_sem, ↓reduceIte , hk1.cell0, g4], hB.skip hskip⟩⟩
  · obtain rfl : b = 8 := by omega
    simp (disch := omega) only [go_sem, ↓reduceIte ]
    exact hK _ _ _ _ hI0
end Go.Proofs.Ytgopmklcggoliaa
