/- RoutesNearer, in our own logic. -/
import Derived.Test.YtgopmklcggoliaaV5
namespace Go.Proofs.Ytgopmklcggoliaa
open Go.RowKit
set_option linter.unusedSimpArgs false

set_option maxRecDepth 20000 in
set_option maxHeartbeats 100000000 in
theorem routesNearer_c {lo : Nat} {H : AH} {nx : Nat} {v w : Value} {acts marks : List Act16} {owna ownm : Nat} (hs : SlA nx H 5 v acts.length (a16Cells acts) owna) (hok : ∀ a ∈ acts, Act16Ok a) (hl : acts.length ≤ 80) (hsm : SlA nx H 5 w marks.length (a16Cells marks) ownm) (hokm : ∀ a ∈ marks, Act16Ok a) (hlm : marks.length ≤ 30) :
    ACalls Try.prog lo 5 #[v, w] H nx (fun v H' nx' => v = .bool true ∧ nx ≤ nx' ∧ Kp (fun _ => False) nx H H') := by
  refine ACalls.withLo fun hlo => ?_
  refine acalls_of_awp L5 Try.func5 rfl (by kernel_rfl) ?_
  obtain ⟨sa, sc, rfl⟩ := hs.form
  obtain ⟨ma, mc, rfl⟩ := hsm.form
  simp (disch := omega) only [go_sem, ↓reduceIte ]
  refine awake16_c.mono fun v H1 nx1 _ ⟨hv, hx1, hk1⟩ => ?_
  subst hv
  simp (disch := omega) only [go_sem, ↓reduceIte ]
  refine rnew_c.mono fun v H2 nx2 _ ⟨r, hv, hr, hR2, hx2, hk2⟩ => ?_
  subst hv
  have hrl := hR2.lt
  simp (disch := omega) only [go_sem, ↓reduceIte ]
  intro q4 h4
  simp (disch := omega) only [go_sem, ↓reduceIte ]
  refine awp_loop (fun m env H3 nx3 => ∃ i s ts us own ownu now, m = acts.length - i ∧ i ≤ acts.length ∧ env = [(0, .slice sa acts.length sc), (1, .slice ma marks.length mc), (5, .pointer (some ⟨r, 0, none⟩)), (6, .pointer (some ⟨q4, 0, none⟩)), (7, .int .i64 (i : Nat))] ∧ ActI lo nx1 H1 r q4 i H3 nx3 s ts us own ownu now) acts.length ⟨0, .slice none 0 0, [], [], 0, 0, 0, rfl, by omega, rfl, ⟨by omega, (by repeat first | exact Kp.refl _ _ _ | refine Kp.dropT ?_ (.inl (by omega)) | refine Kp.put ?_ (.inl (by omega)) | refine Kp.new ?_ (by omega) | refine Kp.put ?_ (.inr (by omega)) | refine Kp.trans0 ?_ (by assumption) (by omega) | refine Kp.transS ?_ (by assumption) (by omega) (fun b hb hT => by first | omega | (dsimp only at hT ⊢; omega) | (simp only at hT ⊢; omega))) , by omega, by omega, by omega, by omega, hR2.kp (S := fun _ => False) (by repeat first | exact Kp.refl _ _ _ | refine Kp.dropT ?_ (.inl (by omega)) | refine Kp.put ?_ (.inl (by omega)) | refine Kp.new ?_ (by omega) | refine Kp.put ?_ (.inr (by omega)) | refine Kp.trans0 ?_ (by assumption) (by omega) | refine Kp.transS ?_ (by assumption) (by omega) (fun b hb hT => by first | omega | (dsimp only at hT ⊢; omega) | (simp only at hT ⊢; omega)))  (by omega) (by simp) (by simp), .inl rfl, by simp (disch := omega) only [go_sem, ↓reduceIte ], by simp (disch := omega) only [go_sem, ↓reduceIte ], SlA.nil _ _ _, .inl rfl, ⟨List.Perm.refl _, List.Pairwise.nil, by simp, by simp, by omega, by omega, by simp, by simp⟩⟩⟩ (fun m env H3 nx3 ⟨i, s, ts, us, own, ownu, now, hm, hi, henv, hA⟩ hn => ?_)
  subst henv
  have hI := hA
  obtain ⟨hx, hkp, hr0, hq0, hqr, hq1, hR, ho, c40, c41, hs3, hou, hT⟩ := hI
  by_cases hil : i < acts.length
  · obtain ⟨a, ha⟩ : ∃ a, acts[i]? = some a := ⟨_, List.getElem?_eq_getElem hil⟩
    obtain ⟨k0, b0, p0, p1, s0, s1, m0, m1⟩ := hok a (List.mem_of_getElem? ha)
    obtain ⟨g, off, cp, hv, hg⟩ := hs.open (by omega)
    cases hv
    have hle := hs.le
    have hsa : SlA nx3 H3 5 (.slice (some ⟨g, off, none⟩) acts.length sc) acts.length (a16Cells acts) owna := (hs.kp hk1 hx1 (by simp)).kp hkp hx (by simp)
    have hld := a16_load hsa ha
    unfold Act16.cells at hld
    obtain ⟨za, zc, rfl⟩ := hs3.form
    simp (disch := omega) only [go_sem, ↓reduceIte ]
    refine awp_draw ord5x8 (by kernel_rfl) ?_
    simp (disch := omega) only [go_sem, ↓reduceIte , ord5x8, c40, c41, hld]
    refine (do_c hR hs3 (by omega) hT (by omega) a.k a.b a.p a.s a.m k0 b0 p0 p1 s0 s1 m0 m1).mono fun v H4 nx4 _ ⟨hx4, hk4, s', ts', us', own', ownu', now', hD⟩ => ?_
    have hN := hA.next (by omega) hx4 hk4 hD
    have hvv := hD.hv
    subst hvv
    have hone := hD.hs.one
    have hc4 := hk4.cell
    simp (disch := omega) only [go_sem, ↓reduceIte , c40, c41, hone, hc4]
    exact ⟨dkeep_last (by kernel_rfl), dkeep_last (by kernel_rfl), acts.length - (i + 1), by omega, i + 1, s', ts', us', own', ownu', now', rfl, by omega, rfl, hN⟩
  · obtain rfl : i = acts.length := by omega
    have hlen := hT.len
    have hlenu := hT.lenu
    have hrlt := hR.lt
    have hleR := hR.q.choose_spec.2.le
    have hleu := hs3.le
    obtain ⟨za, zc, rfl⟩ := hs3.form
    simp (disch := omega) only [go_sem, ↓reduceIte ]
    refine (lowered_c ((hsm.kp hk1 hx1 (by simp)).kp hkp hx (by simp)) hokm (by omega)).mono fun v H4 nx4 _ ⟨hx4, hk4, q8, es0, own0, hv, hq8, hQ4, ho0, hle0, hok0⟩ => ?_
    subst hv
    have hR4 := hR.kp hk4 hx4 (by simp) (by simp)
    have hQl := hQ4.lt
    simp (disch := omega) only [go_sem, ↓reduceIte ]
    refine costs_c.mono fun v H5 nx5 _ ⟨d, hd, hv, hsc, hx5, hk5⟩ => ?_
    subst hv
    have hR5 := hR4.kp hk5 hx5 (by simp) (by simp)
    have hQ5 := hQ4.kp hk5 hx5 (by simp) (by simp)
    simp (disch := omega) only [go_sem, ↓reduceIte ]
    refine (rselect_c (costs := costL) (feas := feasE es0) hR5 (fun t ht => hT.ok t ht) (by omega) hsc (by simp [costL]) (fun H7 nx7 hx7 hk7 t _ => sfeas_c (hQ5.kp hk7 hx7 (by simp) (by simp)) (by omega) _ _ _ _)).mono fun v H6 nx6 _ ⟨hx6, hk6, own6, l, hpl, hsd, hsL, ho6⟩ => ?_
    have hul : UqT l := hT.uq.perm hpl.symm
    have hstr := sorted_strict hul hsd
    have hml : ∀ t ∈ l, t ∈ us := fun t ht => hT.perm.mem_iff.2 (hpl.mem_iff.1 ht)
    have htl : ∀ t ∈ l, TdOk t ∧ 0 ≤ t.metric ∧ t.metric ≤ 65535 := fun t ht => hT.ok t (hpl.mem_iff.1 ht)
    have hmore : ∀ t ∈ l, pxRightC t.addr t.len = true ∧ 0 ≤ t.seq ∧ t.seq ≤ 3 := fun t ht => hT.more t (hpl.mem_iff.1 ht)
    have hS0 := sel_S (costs := costL) (feas := feasE es0) hstr
    have hLl : (selR costL (feasE es0) l).length ≤ 80 := by
      have h1 := selR_len costL (feasE es0) l l.length
      rw [List.take_length] at h1
      have := hpl.length_eq
      omega
    generalize hL : selR costL (feasE es0) l = L at hsL hS0 hLl
    have hR6 := hR5.kp hk6 hx6 (by simp) (by simp)
    have hQ6 := hQ5.kp hk6 hx6 (by simp) (by simp)
    have hs6 : SlA nx6 H6 7 (.slice za us.length zc) us.length (tdCells us) ownu := ((hs3.kp hk4 hx4 (by simp)).kp hk5 hx5 (by simp)).kp hk6 hx6 (by simp)
    have hc4 := hk4.cell0
    have hc5 := hk5.cell0
    have hc6 := hk6.cell0
    have d40 : H6.c q4 0 = some (.slice za us.length zc) := by rw [hc6 _ _ (by omega), hc5 _ _ (by omega), hc4 _ _ (by omega)]; exact c40
    have d41 : H6.c q4 1 = some (.int .u64 now) := by rw [hc6 _ _ (by omega), hc5 _ _ (by omega), hc4 _ _ (by omega)]; exact c41
    obtain ⟨la, lc, rfl⟩ := hsL.form
    have hle0' := hQ4.q.choose_spec.2.le
    simp (disch := omega) only [go_sem, ↓reduceIte ]
    refine awp_loop (fun m env H7 nx7 => ∃ i es owne, NrI lo nx6 H6 r q4 q8 (.slice la L.length lc) es0 own0 l L m env H7 nx7 i es owne) L.length ⟨0, es0, own0, ⟨rfl, by omega, rfl, Nat.le_refl _, Kp.refl _ _ _, .inl rfl, hQ6, ⟨hQ6.sorted, hok0, by omega, fun e he => .inl he, fun o ho => ⟨o, ho, ⟨rfl, rfl⟩, .inl rfl⟩, fun j x hj => by omega⟩⟩⟩ (fun m env H7 nx7 ⟨i, es, owne, hI⟩ hn7 => ?_)
    obtain ⟨hm7, hi7, henv, hx7, hk7, ho7, hQ7, hN⟩ := hI
    subst henv
    have hc7 := hk7.cell
    by_cases hiL : i < L.length
    · obtain ⟨x, hx0⟩ : ∃ x, L[i]? = some x := ⟨_, List.getElem?_eq_getElem hiL⟩
      obtain ⟨t, htl0, hch⟩ : ∃ t ∈ l, rtOf costL (feasE es0) t = some x := by
        have := hS0.sub x (List.mem_of_getElem? hx0)
        rwa [List.mem_filterMap] at this
      have ch := rtOf_cho hch
      obtain ⟨htok, tm0, tm1⟩ := htl t htl0
      obtain ⟨hpx, ts0, ts1⟩ := hmore t htl0
      have xa := ch.a; have xl := ch.l; have xv := ch.v; have xs := ch.s
      obtain ⟨c, hcc, cne, clt, cm⟩ := ch.c
      have hc1 : ∀ c ∈ costL, 1 ≤ c := by simp [costL]
      have cge := hc1 c (List.mem_of_getElem? hcc)
      obtain ⟨gL, oL, cL, hvL, hgL⟩ := hsL.open (by omega)
      cases hvL
      have hul0 : 0 < us.length := List.length_pos_of_mem (hml t htl0)
      obtain ⟨gu, ou, cu, hvu, hgu⟩ := hs6.open hul0
      cases hvu
      have hleL := hsL.le
      have z := rt_cells hsL hx0
      have z0 := z 0 (by omega)
      have z1 := z 1 (by omega)
      have z2 := z 2 (by omega)
      have z3 := z 3 (by omega)
      have z4 := z 4 (by omega)
      rw [Nat.add_zero] at z0
      simp only [Rt.cells, List.getElem?_cons_zero, List.getElem?_cons_succ] at z0 z1 z2 z3 z4
      have hs7 : SlA nx7 H7 7 (.slice (some ⟨gu, ou, none⟩) us.length zc) us.length (tdCells us) ownu := hs6.kp hk7 hx7 (by omega)
      simp (disch := omega) only [go_sem, ↓reduceIte ]
      refine awp_draw ord5x14 (by kernel_rfl) ?_
      simp (disch := omega) only [go_sem, ↓reduceIte , ord5x14, hc7, d40, d41, z0, z1, z2]
      refine (tfind_c hs7 (by omega) now x.addr x.len x.via).mono fun v H8 nx8 _ ⟨hv, hx8, hk8⟩ => ?_
      have htu := hml t htl0
      rcases hv with ⟨j, u, hj, hju, rfl, _⟩ | ⟨hnone, _⟩
      · have hut : u = t := told_same2 hT.uqu htu (List.mem_of_getElem? hj) (by unfold hitT; rw [← xa, ← xl, ← xv]; exact hju)
        subst hut
        have hc8 := hk8.cell0
        have hQ8 := hQ7.kp hk8 hx8 (by simp) (by simp)
        have hNl := hN.len
        have hleQ := hQ7.q.choose_spec.2.le
        simp (disch := omega) only [go_sem, ↓reduceIte ]
        refine ⟨dkeep_last (by kernel_rfl), ?_⟩
        refine awp_draw ord5x17 (by kernel_rfl) ?_
        simp (disch := omega) only [go_sem, ↓reduceIte , ord5x17, hc8, hc7, z0, z1, z3, z4]
        refine (slower_c hQ8 (by omega) x.addr x.len x.seq x.metric (by rw [xa, xl]; exact hpx) (by rw [xl]; exact htok.l0) (by omega)).mono fun v H9 nx9 _ ⟨hv, hx9, hk9, es', own', hLow, hQ9, ho9⟩ => ?_
        subst hv
        have hN' := hN.next hS0.srt hok0 hc1 hx0 ⟨by omega, by omega⟩ hLow
        have hNl' := hN'.len
        have hc9 := hk9.cell
        simp (disch := omega) only [go_sem, ↓reduceIte ]
        refine ⟨dkeep_last (by kernel_rfl), ?_⟩
        simp (disch := omega) only [go_sem, ↓reduceIte , hc9, hc8, hc7, z0, z1]
        refine (smark_c hQ9 (by omega) x.addr x.len).mono fun v H10 nx10 _ ⟨hx10, hk10, s1, m1, ok, hv, hmk⟩ => ?_
        obtain ⟨e0, he0, hp0, _⟩ := hLow.there
        rcases hmk with ⟨rfl, e, he, e1, e2, rfl, rfl⟩ | ⟨_, _, _, hno⟩
        · subst hv
          have heok := hN'.ok e he
          have heok1 := heok.2
          have hnear := hN'.near i x (by omega) hx0 u htl0 ch
          have hc10 := hk10.cell0
          have hleQ9 := hQ9.q.choose_spec.2.le
          have hQ10 := hQ9.kp hk10 hx10 (by simp) (by simp)
          have y4 := td_cells hs6 hj 4 (by omega)
          have y5 := td_cells hs6 hj 5 (by omega)
          simp only [Tld.cells, List.getElem?_cons_zero, List.getElem?_cons_succ] at y4 y5
          have y5' : H6.c gu (ou + j * 7 + 4 + 1) = some (.int .u16 u.metric) := y5
          have hjl := (List.getElem?_eq_some_iff.1 hj).1
          simp (disch := omega) only [go_sem, ↓reduceIte ]
          intro q12 h12
          have hQ11 : SouA lo (q12 + 1) (((H10.new q12 #[.int .u16 0, .int .u16 0] 41).put q12 0 (.int .u16 e.seq)).put q12 1 (.int .u16 e.metric)) q8 es' own' := hQ10.kp (S := fun _ => False) (by repeat first | exact Kp.refl _ _ _ | refine Kp.dropT ?_ (.inl (by omega)) | refine Kp.put ?_ (.inl (by omega)) | refine Kp.new ?_ (by omega) | refine Kp.put ?_ (.inr (by omega)) | refine Kp.trans0 ?_ (by assumption) (by omega) | refine Kp.transS ?_ (by assumption) (by omega) (fun b hb hT => by first | omega | (dsimp only at hT ⊢; omega) | (simp only at hT ⊢; omega)))  (by omega) (by simp) (by simp)
          simp (disch := omega) only [go_sem, ↓reduceIte ]
          refine awp_draw ord5x20 (by kernel_rfl) ?_
          simp (maxSteps := 10000000) (disch := omega) only [go_sem, ↓reduceIte, ord5x20, hc10, hc9, hc8, hc7, d40, y4, y5', z0, z1]
          refine (nearer01_c u.seq u.metric e.seq e.metric (by omega) (by omega) heok.1 (by omega) _ _).mono fun v H11 nx11 _ ⟨hv, hx11, hk11⟩ => ?_
          have hn1 : nearI u.seq u.metric e.seq e.metric = true := hnear e he ⟨e1, e2⟩
          rw [hn1] at hv
          subst hv
          have hc11 := hk11.cell0
          simp (maxSteps := 10000000) (disch := omega) only [go_sem, ↓reduceIte, hc11, hc10, hc9, hc8, hc7, d40, y4, y5', z0, z1]
          refine ⟨dkeep_kp hk11, ?_⟩
          refine (sfeas_c (hQ11.kp hk11 hx11 (by simp) (by simp)) (by omega) x.addr x.len u.seq u.metric).mono fun v H12 nx12 _ ⟨hv, hx12, hk12⟩ => ?_
          have hf1 : feasR es' x.addr x.len u.seq u.metric = true := feasR_iff.2 (.inr fun f hf hp => hnear f hf hp)
          rw [hf1] at hv
          subst hv
          simp (maxSteps := 10000000) (disch := omega) only [go_sem, ↓reduceIte]
          refine ⟨dkeep_kp (show Kp (fun _ => False) (q12 + 1) _ H12 from (by repeat first | exact Kp.refl _ _ _ | refine Kp.dropT ?_ (.inl (by omega)) | refine Kp.put ?_ (.inl (by omega)) | refine Kp.new ?_ (by omega) | refine Kp.put ?_ (.inr (by omega)) | refine Kp.trans0 ?_ (by assumption) (by omega) | refine Kp.transS ?_ (by assumption) (by omega) (fun b hb hT => by first | omega | (dsimp only at hT ⊢; omega) | (simp only at hT ⊢; omega))) ), L.length - (i + 1), by omega, i + 1, es', own', ⟨rfl, by omega, rfl, by omega, (by repeat first | exact Kp.refl _ _ _ | refine Kp.dropT ?_ (.inl (by omega)) | refine Kp.put ?_ (.inl (by omega)) | refine Kp.new ?_ (by omega) | refine Kp.put ?_ (.inr (by omega)) | refine Kp.trans0 ?_ (by assumption) (by omega) | refine Kp.transS ?_ (by assumption) (by omega) (fun b hb hT => by first | omega | (dsimp only at hT ⊢; omega) | (simp only at hT ⊢; omega))) , by omega, (hQ11.kp hk11 hx11 (by simp) (by simp)).kp hk12 hx12 (by simp) (by simp), hN'⟩⟩
        · exact absurd hp0 (hno e0 he0)
      · have h1 := hnone t htu
        have h2 : hitC x.addr x.len x.via t = true := by simp [hitC, xa, xl, xv]
        rw [h2] at h1; cases h1
    · obtain rfl : i = L.length := by omega
      have hR7 := hR6.kp hk7 hx7 (by omega) (by intro b hb; omega)
      have hNl := hN.len
      simp (disch := omega) only [go_sem, ↓reduceIte ]
      refine costs_c.mono fun v H8 nx8 _ ⟨d2, hd2, hv, hsc2, hx8, hk8⟩ => ?_
      subst hv
      have hR8 := hR7.kp hk8 hx8 (by simp) (by simp)
      have hQ8 := hQ7.kp hk8 hx8 (by simp) (by simp)
      simp (disch := omega) only [go_sem, ↓reduceIte ]
      refine (rselect_c (costs := costL) (feas := feasE es) hR8 (fun t ht => hT.ok t ht) (by omega) hsc2 (by simp [costL]) (fun H9 nx9 hx9 hk9 t _ => sfeas_c (hQ8.kp hk9 hx9 (by simp) (by simp)) (by omega) _ _ _ _)).mono fun v H9 nx9 _ ⟨hx9, hk9, own9, l2, hpl2, hsd2, hsL2, ho9⟩ => ?_
      have hl2 : l2 = l := told_sorted_eq _ _ (sorted_strict (hT.uq.perm hpl2.symm) hsd2) hstr (fun x => (hpl2.trans hpl.symm).mem_iff)
      subst hl2
      rw [← hL] at hN
      have hag := hN.again hstr hok0 (fun t ht => (hmore t ht).2)
      rw [hag, hL] at hsL2
      have hsL9 := ((hsL.kp hk7 hx7 (by intro b hb; omega)).kp hk8 hx8 (by simp)).kp hk9 hx9 (by simp)
      obtain ⟨wa, wc, rfl⟩ := hsL2.form
      simp (disch := omega) only [go_sem, ↓reduceIte ]
      refine (sameR_c hsL9 hsL2 (by omega)).mono fun v H10 nx10 _ ⟨hv, hx10, hk10⟩ => ?_
      subst hv
      simp (disch := omega) only [go_sem, ↓reduceIte ]
      exact ⟨by omega, (by repeat first | exact Kp.refl _ _ _ | refine Kp.dropT ?_ (.inl (by omega)) | refine Kp.put ?_ (.inl (by omega)) | refine Kp.new ?_ (by omega) | refine Kp.put ?_ (.inr (by omega)) | refine Kp.trans0 ?_ (by assumption) (by omega) | refine Kp.transS ?_ (by assumption) (by omega) (fun b hb hT => by first | omega | (dsimp only at hT ⊢; omega) | (simp only at hT ⊢; omega))) ⟩
end Go.Proofs.Ytgopmklcggoliaa
