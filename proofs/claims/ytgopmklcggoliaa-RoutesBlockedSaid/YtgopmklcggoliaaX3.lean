/- RoutesBlocked, in our own logic. -/
import Derived.Test.YtgopmklcggoliaaX2
import Derived.Test.YtgopmklcggoliaaU8
namespace Go.Proofs.Ytgopmklcggoliaa
open Go.RowKit
set_option linter.unusedSimpArgs false

set_option maxRecDepth 20000 in
set_option maxHeartbeats 100000000 in
theorem routesBlocked_c {lo : Nat} {H : AH} {nx : Nat} {v w : Value} {acts marks : List Act16} {owna ownm : Nat} (hs : SlA nx H 5 v acts.length (a16Cells acts) owna) (hok : ∀ a ∈ acts, Act16Ok a) (hl : acts.length ≤ 80) (hsm : SlA nx H 5 w marks.length (a16Cells marks) ownm) (hokm : ∀ a ∈ marks, Act16Ok a) (hlm : marks.length ≤ 30) :
    ACalls Try.prog lo 6 #[v, w] H nx (fun v H' nx' => v = .bool true ∧ nx ≤ nx' ∧ Kp (fun _ => False) nx H H') := by
  refine ACalls.withLo fun hlo => ?_
  refine acalls_of_awp L6 Try.func6 rfl (by kernel_rfl) ?_
  obtain ⟨sa, sc, rfl⟩ := hs.form
  obtain ⟨ma, mc, rfl⟩ := hsm.form
  simp (disch := omega) only [go_sem, ↓reduceIte ]
  refine awake16_c.mono fun v H1 nx1 _ ⟨hv, hx1, hk1⟩ => ?_
  subst hv
  simp (disch := omega) only [go_sem, ↓reduceIte ]
  refine rnew_c.mono fun v H2 nx2 _ ⟨r, hv, hr, hR2, hx2, hk2⟩ => ?_
  subst hv
  have hrl := hR2.lt
  simp (disch := omega) only [go_sem, ↓reduceIte ]
  intro q4 h4
  simp (disch := omega) only [go_sem, ↓reduceIte ]
  refine awp_loop (fun m env H3 nx3 => ∃ i s ts us own ownu now, m = acts.length - i ∧ i ≤ acts.length ∧ env = [(0, .slice sa acts.length sc), (1, .slice ma marks.length mc), (5, .pointer (some ⟨r, 0, none⟩)), (6, .pointer (some ⟨q4, 0, none⟩)), (7, .int .i64 (i : Nat))] ∧ ActI lo nx1 H1 r q4 i H3 nx3 s ts us own ownu now) acts.length ⟨0, .slice none 0 0, [], [], 0, 0, 0, rfl, by omega, rfl, ⟨by omega, (by repeat first | exact Kp.refl _ _ _ | refine Kp.dropT ?_ (.inl (by omega)) | refine Kp.put ?_ (.inl (by omega)) | refine Kp.new ?_ (by omega) | refine Kp.put ?_ (.inr (by omega)) | refine Kp.newO ?_ (by omega) | refine Kp.setO ?_ (.inl (by omega)) | refine Kp.setO ?_ (.inr (by omega)) | refine Kp.trans0 ?_ (by assumption) (by omega) | refine Kp.transS ?_ (by assumption) (by omega) (fun b hb hT => by first | omega | (dsimp only at hT ⊢; omega) | (simp only at hT ⊢; omega))) , by omega, by omega, by omega, by omega, hR2.kp (S := fun _ => False) (by repeat first | exact Kp.refl _ _ _ | refine Kp.dropT ?_ (.inl (by omega)) | refine Kp.put ?_ (.inl (by omega)) | refine Kp.new ?_ (by omega) | refine Kp.put ?_ (.inr (by omega)) | refine Kp.newO ?_ (by omega) | refine Kp.setO ?_ (.inl (by omega)) | refine Kp.setO ?_ (.inr (by omega)) | refine Kp.trans0 ?_ (by assumption) (by omega) | refine Kp.transS ?_ (by assumption) (by omega) (fun b hb hT => by first | omega | (dsimp only at hT ⊢; omega) | (simp only at hT ⊢; omega)))  (by omega) (by simp) (by simp), .inl rfl, by simp (disch := omega) only [go_sem, ↓reduceIte ], by simp (disch := omega) only [go_sem, ↓reduceIte ], SlA.nil _ _ _, .inl rfl, ⟨List.Perm.refl _, List.Pairwise.nil, by simp, by simp, by omega, by omega, by simp, by simp⟩⟩⟩ (fun m env H3 nx3 ⟨i, s, ts, us, own, ownu, now, hm, hi, henv, hA⟩ hn => ?_)
  subst henv
  have hI := hA
  obtain ⟨hx, hkp, hr0, hq0, hqr, hq1, hR, ho, c40, c41, hs3, hou, hT⟩ := hI
  by_cases hil : i < acts.length
  · obtain ⟨a, ha⟩ : ∃ a, acts[i]? = some a := ⟨_, List.getElem?_eq_getElem hil⟩
    obtain ⟨k0, b0, p0, p1, s0, s1, m0, m1⟩ := hok a (List.mem_of_getElem? ha)
    obtain ⟨g, off, cp, hv, hg⟩ := hs.open (by omega)
    cases hv
    have hle := hs.le
    have hsa : SlA nx3 H3 5 (.slice (some ⟨g, off, none⟩) acts.length sc) acts.length (a16Cells acts) owna := (hs.kp hk1 hx1 (by simp)).kp hkp hx (by simp)
    have hld := a16_load hsa ha
    unfold Act16.cells at hld
    obtain ⟨za, zc, rfl⟩ := hs3.form
    simp (disch := omega) only [go_sem, ↓reduceIte ]
    refine awp_draw ord6x8 (by kernel_rfl) ?_
    simp (disch := omega) only [go_sem, ↓reduceIte , ord6x8, c40, c41, hld]
    refine (do_c hR hs3 (by omega) hT (by omega) a.k a.b a.p a.s a.m k0 b0 p0 p1 s0 s1 m0 m1).mono fun v H4 nx4 _ ⟨hx4, hk4, s', ts', us', own', ownu', now', hD⟩ => ?_
    have hN := hA.next (by omega) hx4 hk4 hD
    have hvv := hD.hv
    subst hvv
    have hone := hD.hs.one
    have hc4 := hk4.cell
    simp (disch := omega) only [go_sem, ↓reduceIte , c40, c41, hone, hc4]
    exact ⟨dkeep_last (by kernel_rfl), dkeep_last (by kernel_rfl), acts.length - (i + 1), by omega, i + 1, s', ts', us', own', ownu', now', rfl, by omega, rfl, hN⟩
  · obtain rfl : i = acts.length := by omega
    have hlen := hT.len
    have hlenu := hT.lenu
    have hrlt := hR.lt
    have hleR := hR.q.choose_spec.2.le
    have hleu := hs3.le
    obtain ⟨za, zc, rfl⟩ := hs3.form
    simp (disch := omega) only [go_sem, ↓reduceIte ]
    refine (lowered_c ((hsm.kp hk1 hx1 (by simp)).kp hkp hx (by simp)) hokm (by omega)).mono fun v H4 nx4 _ ⟨hx4, hk4, q8, es0, own0, hv, hq8, hQ4, ho0, hle0, hok0⟩ => ?_
    subst hv
    have hR4 := hR.kp hk4 hx4 (by simp) (by simp)
    have hQl := hQ4.lt
    simp (disch := omega) only [go_sem, ↓reduceIte ]
    refine (rblocked_c (feas := feasE es0) hR4 (fun t ht => (hT.ok t ht).1) (by omega) (fun H7 nx7 hx7 hk7 t _ => sfeas_c (hQ4.kp hk7 hx7 (by simp) (by simp)) (by omega) _ _ _ _)).mono fun v H6 nx6 _ ⟨hx6, hk6, own6, l, hpl, hsd, hsL, ho6⟩ => ?_
    have hul : UqT l := hT.uq.perm hpl.symm
    have hstr := sorted_strict hul hsd
    have hS0 := bl_S (good := goodP (feasE es0) ts) hstr
    have hgp : goodP (feasE es0) ts = goodP (feasE es0) us := by
      funext a n
      exact (goodP_perm hT.perm a n).symm
    have hLl : (blR (goodP (feasE es0) ts) l).length ≤ 80 := by
      have h1 := blR_len (goodP (feasE es0) ts) l l.length
      rw [List.take_length] at h1
      have := hpl.length_eq
      omega
    generalize hL : blR (goodP (feasE es0) ts) l = L at hsL hS0 hLl
    rw [hgp] at hS0
    have hQ6 := hQ4.kp hk6 hx6 (by simp) (by simp)
    have hs6 : SlA nx6 H6 7 (.slice za us.length zc) us.length (tdCells us) ownu := (hs3.kp hk4 hx4 (by simp)).kp hk6 hx6 (by simp)
    have hc4 := hk4.cell0
    have hc6 := hk6.cell0
    have d40 : H6.c q4 0 = some (.slice za us.length zc) := by rw [hc6 _ _ (by omega), hc4 _ _ (by omega)]; exact c40
    have d41 : H6.c q4 1 = some (.int .u64 now) := by rw [hc6 _ _ (by omega), hc4 _ _ (by omega)]; exact c41
    obtain ⟨la, lc, rfl⟩ := hsL.form
    have hle0' := hQ4.q.choose_spec.2.le
    have hmu : ∀ t, t ∈ us ↔ t ∈ ts := fun t => hT.perm.mem_iff
    have hlu : ∀ t, t ∈ l ↔ t ∈ us := fun t => ⟨fun h => (hmu t).2 (hpl.mem_iff.1 h), fun h => hpl.mem_iff.2 ((hmu t).1 h)⟩
    have hall : cntK L 18 = L.length := cntK_all fun y hy => by
      have := hS0.sub y hy
      rw [List.mem_filterMap] at this
      obtain ⟨t, ht, hty⟩ := this
      unfold blOf at hty
      split at hty
      · cases hty
      · cases hty
        obtain ⟨_, _, a, a0, a1, a2⟩ := hT.far t (hpl.mem_iff.1 ht)
        exact ⟨a, a0, a1, a2⟩
    simp (disch := omega) only [go_sem, ↓reduceIte ]
    refine bl_out (s := .slice za us.length zc) (l := l) (L := L) d40 d41 hs6 (by omega) hQ6 (by omega) (by omega) (by omega) hlu hT.uqu (fun t ht => hT.ok t ((hmu t).1 ht)) (fun t ht => ⟨(hT.far t ((hmu t).1 ht)).1, (hT.far t ((hmu t).1 ht)).2.1⟩) hS0 hsL (by omega) (fun H7 nx7 hx7 hk7 => ?_)
    rw [hall]
    unfold boEnv
    simp (disch := omega) only [go_sem, ↓reduceIte ]
    exact ⟨by omega, (by repeat first | exact Kp.refl _ _ _ | refine Kp.dropT ?_ (.inl (by omega)) | refine Kp.put ?_ (.inl (by omega)) | refine Kp.new ?_ (by omega) | refine Kp.put ?_ (.inr (by omega)) | refine Kp.newO ?_ (by omega) | refine Kp.setO ?_ (.inl (by omega)) | refine Kp.setO ?_ (.inr (by omega)) | refine Kp.trans0 ?_ (by assumption) (by omega) | refine Kp.transS ?_ (by assumption) (by omega) (fun b hb hT => by first | omega | (dsimp only at hT ⊢; omega) | (simp only at hT ⊢; omega))) ⟩
end Go.Proofs.Ytgopmklcggoliaa
