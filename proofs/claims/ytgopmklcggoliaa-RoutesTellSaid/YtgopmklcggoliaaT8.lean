/- RoutesTell, in our own logic. -/
import Derived.Test.YtgopmklcggoliaaT7
namespace Go.Proofs.Ytgopmklcggoliaa
open Go.RowKit
set_option linter.unusedSimpArgs false

theorem told_same {l : List Tld} (hu : UqT l) {t u : Tld} (ht : t ∈ l) (hu2 : u ∈ l) (h : hitT t u = true) : u = t := by
  obtain ⟨i, hi, rfl⟩ := List.getElem_of_mem ht
  obtain ⟨j, hj, rfl⟩ := List.getElem_of_mem hu2
  unfold UqT at hu
  rw [List.pairwise_iff_getElem] at hu
  rcases Nat.lt_trichotomy i j with hlt | rfl | hlt
  · rw [hu i j hi hj hlt] at h; cases h
  · rfl
  · have := hu j i hj hi hlt
    rw [hitT_symm] at this
    rw [this] at h; cases h

theorem sorted_ahead {l : List Tld} (hu : UqT l) (hs : l.Pairwise (fun x y => ¬ aheadT y x)) {i : Nat} {x y : Tld} (hx : l[i]? = some x) (hy : l[i + 1]? = some y) : aheadT x y := by
  obtain ⟨hi, rfl⟩ := List.getElem?_eq_some_iff.1 hx
  obtain ⟨hj, rfl⟩ := List.getElem?_eq_some_iff.1 hy
  unfold UqT at hu
  rw [List.pairwise_iff_getElem] at hu hs
  have h1 := hu i (i + 1) hi hj (by omega)
  have h2 := hs i (i + 1) hi hj (by omega)
  have h3 : ¬ (l[i + 1].addr = l[i].addr ∧ l[i + 1].len = l[i].len ∧ l[i + 1].who = l[i].who) := fun h => by
    rw [(hitT_iff _ _).2 h] at h1; cases h1
  unfold aheadT at h2 ⊢
  omega

structure CkI (nx0 : Nat) (H0 : AH) (q4 : Nat) (lv : Value) (n : Nat) (m : Nat) (env : Env) (H : AH) (nx i : Nat) : Prop where
  hm : m = n - i
  hi : i ≤ n
  henv : env = [(4, .pointer (some ⟨q4, 0, none⟩)), (7, lv), (8, .int .i64 i)]
  hx : nx0 ≤ nx
  hkp : Kp (fun _ => False) nx0 H0 H

set_option maxRecDepth 20000 in
set_option maxHeartbeats 4000000 in
theorem routesTell_c {lo : Nat} {H : AH} {nx : Nat} {v : Value} {acts : List Act16} {owna : Nat} (hs : SlA nx H 5 v acts.length (a16Cells acts) owna) (hok : ∀ a ∈ acts, Act16Ok a) (hl : acts.length ≤ 80) :
    ACalls Try.prog lo 3 #[v] H nx (fun v H' nx' => v = .bool true ∧ nx ≤ nx' ∧ Kp (fun _ => False) nx H H') := by
  refine ACalls.withLo fun hlo => ?_
  refine acalls_of_awp L3 Try.func3 rfl (by kernel_rfl) ?_
  obtain ⟨sa, sc, rfl⟩ := hs.form
  simp (disch := omega) only [go_sem, ↓reduceIte ]
  refine awake16_c.mono fun v H1 nx1 _ ⟨hv, hx1, hk1⟩ => ?_
  subst hv
  simp (disch := omega) only [go_sem, ↓reduceIte ]
  refine rnew_c.mono fun v H2 nx2 _ ⟨r, hv, hr, hR2, hx2, hk2⟩ => ?_
  subst hv
  have hrl := hR2.lt
  simp (disch := omega) only [go_sem, ↓reduceIte ]
  intro q4 h4
  simp (disch := omega) only [go_sem, ↓reduceIte ]
  refine awp_loop (fun m env H3 nx3 => ∃ i s ts us own ownu now, m = acts.length - i ∧ i ≤ acts.length ∧ env = [(0, .slice sa acts.length sc), (3, .pointer (some ⟨r, 0, none⟩)), (4, .pointer (some ⟨q4, 0, none⟩)), (5, .int .i64 (i : Nat))] ∧ ActI lo nx1 H1 r q4 i H3 nx3 s ts us own ownu now) acts.length ⟨0, .slice none 0 0, [], [], 0, 0, 0, rfl, by omega, rfl, ⟨by omega, (by repeat first | exact Kp.refl _ _ _ | refine Kp.dropT ?_ (.inl (by omega)) | refine Kp.put ?_ (.inl (by omega)) | refine Kp.new ?_ (by omega) | refine Kp.put ?_ (.inr (by omega)) | refine Kp.trans0 ?_ (by assumption) (by omega) | refine Kp.transS ?_ (by assumption) (by omega) (fun b hb hT => by first | omega | (dsimp only at hT ⊢; omega) | (simp only at hT ⊢; omega))) , by omega, by omega, by omega, by omega, hR2.kp (S := fun _ => False) (by repeat first | exact Kp.refl _ _ _ | refine Kp.dropT ?_ (.inl (by omega)) | refine Kp.put ?_ (.inl (by omega)) | refine Kp.new ?_ (by omega) | refine Kp.put ?_ (.inr (by omega)) | refine Kp.trans0 ?_ (by assumption) (by omega) | refine Kp.transS ?_ (by assumption) (by omega) (fun b hb hT => by first | omega | (dsimp only at hT ⊢; omega) | (simp only at hT ⊢; omega)))  (by omega) (by simp) (by simp), .inl rfl, by simp (disch := omega) only [go_sem, ↓reduceIte ], by simp (disch := omega) only [go_sem, ↓reduceIte ], SlA.nil _ _ _, .inl rfl, ⟨List.Perm.refl _, List.Pairwise.nil, by simp, by simp, by omega, by omega⟩⟩⟩ (fun m env H3 nx3 ⟨i, s, ts, us, own, ownu, now, hm, hi, henv, hA⟩ hn => ?_)
  subst henv
  have hI := hA
  obtain ⟨hx, hkp, hr0, hq0, hqr, hq1, hR, ho, c40, c41, hs3, hou, hT⟩ := hI
  by_cases hil : i < acts.length
  · obtain ⟨a, ha⟩ : ∃ a, acts[i]? = some a := ⟨_, List.getElem?_eq_getElem hil⟩
    obtain ⟨k0, b0, p0, p1, s0, s1, m0, m1⟩ := hok a (List.mem_of_getElem? ha)
    obtain ⟨g, off, cp, hv, hg⟩ := hs.open (by omega)
    cases hv
    have hle := hs.le
    have hsa : SlA nx3 H3 5 (.slice (some ⟨g, off, none⟩) acts.length sc) acts.length (a16Cells acts) owna := (hs.kp hk1 hx1 (by simp)).kp hkp hx (by simp)
    have hld := a16_load hsa ha
    unfold Act16.cells at hld
    obtain ⟨za, zc, rfl⟩ := hs3.form
    simp (disch := omega) only [go_sem, ↓reduceIte ]
    refine awp_draw ord3x9 (by kernel_rfl) ?_
    simp (disch := omega) only [go_sem, ↓reduceIte , ord3x9, c40, c41, hld]
    refine (do_c hR hs3 (by omega) hT (by omega) a.k a.b a.p a.s a.m k0 b0 p0 p1 s0 s1 m0 m1).mono fun v H4 nx4 _ ⟨hx4, hk4, s', ts', us', own', ownu', now', hD⟩ => ?_
    have hN := hA.next (by omega) hx4 hk4 hD
    have hvv := hD.hv
    subst hvv
    have hone := hD.hs.one
    have hc4 := hk4.cell
    simp (disch := omega) only [go_sem, ↓reduceIte , c40, c41, hone, hc4]
    exact ⟨dkeep_last (by kernel_rfl), dkeep_last (by kernel_rfl), acts.length - (i + 1), by omega, i + 1, s', ts', us', own', ownu', now', rfl, by omega, rfl, hN⟩
  · obtain rfl : i = acts.length := by omega
    simp (disch := omega) only [go_sem, ↓reduceIte ]
    have hok2 : ∀ t ∈ ts, TdOk t := fun t ht => (hT.ok t ht).1
    have hlen := hT.len
    refine (rall_c hR hok2 (by omega)).mono fun v H4 nx4 _ ⟨hx4, hk4, ownl, l, hsl, hol, hpl, hsd⟩ => ?_
    have hc4 := hk4.cell0
    have hs4 := hs3.kp hk4 hx4 (by simp)
    have hll : l.length = us.length := by rw [hpl.length_eq, hT.perm.length_eq]
    have hlu : UqT l := hT.uq.perm hpl.symm
    have hmu : ∀ t ∈ l, t ∈ us := fun t ht => hT.perm.mem_iff.2 (hpl.mem_iff.1 ht)
    have hul : us.length ≤ 80 := by have := hT.lenu; omega
    obtain ⟨ya, yc, rfl⟩ := hsl.form
    obtain ⟨za, zc, rfl⟩ := hs3.form
    simp (disch := omega) only [go_sem, ↓reduceIte , hc4, c40, hll]
    refine awp_loop (fun m env H5 nx5 => ∃ i, CkI nx4 H4 q4 (.slice ya us.length yc) us.length m env H5 nx5 i) us.length ⟨0, ⟨rfl, by omega, rfl, Nat.le_refl _, Kp.refl _ _ _⟩⟩ (fun m env H5 nx5 ⟨i, hI⟩ hn5 => ?_)
    obtain ⟨hm, hi, henv, hx5, hk5⟩ := hI
    subst henv
    have hc5 := hk5.cell0
    by_cases hil : i < us.length
    · obtain ⟨x, hx0⟩ : ∃ x, l[i]? = some x := ⟨_, List.getElem?_eq_getElem (by omega)⟩
      have hsl5 := hsl.kp hk5 hx5 (by simp)
      have hs5 := hs4.kp hk5 hx5 (by simp)
      rw [hll] at hsl5
      obtain ⟨gl, ol, cl, hvl, hgl⟩ := hsl5.open (by omega)
      cases hvl
      obtain ⟨gu, ou, cu, hvu, hgu⟩ := hs5.open (by omega)
      cases hvu
      have x0 := td_cells hsl5 hx0 0 (by omega)
      have x1 := td_cells hsl5 hx0 1 (by omega)
      have x2 := td_cells hsl5 hx0 2 (by omega)
      rw [Nat.add_zero] at x0
      simp only [Tld.cells, List.getElem?_cons_zero, List.getElem?_cons_succ] at x0 x1 x2
      simp (disch := omega) only [go_sem, ↓reduceIte , hc5, hc4, c40, c41]
      refine awp_draw ord3x18 (by kernel_rfl) ?_
      simp (disch := omega) only [go_sem, ↓reduceIte , ord3x18, x0, x1, x2, hc5, hc4, c40, c41]
      refine (tfind_c hs5 (by omega) now x.addr x.len x.who).mono fun v H6 nx6 _ ⟨hv, hx6, hk6⟩ => ?_
      have hxm := hmu x (List.mem_of_getElem? hx0)
      rcases hv with ⟨j, u, hj, hju, rfl, _⟩ | ⟨hnone, _⟩
      · have hux : u = x := told_same hT.uqu hxm (List.mem_of_getElem? hj) hju
        subst hux
        have hjl := (List.getElem?_eq_some_iff.1 hj).1
        have hc6 := hk6.cell0
        have hsl6 := hsl5.kp hk6 hx6 (by simp)
        have hs6 := hs5.kp hk6 hx6 (by simp)
        have ld1 := td_load hs6 hj
        have ld2 := td_load hsl6 hx0
        unfold Tld.cells at ld1 ld2
        have hsl6c := td_cells hsl6 hx0
        have z0 := hsl6c 0 (by omega)
        have z1 := hsl6c 1 (by omega)
        have z2 := hsl6c 2 (by omega)
        rw [Nat.add_zero] at z0
        simp only [Tld.cells, List.getElem?_cons_zero, List.getElem?_cons_succ] at z0 z1 z2
        have hgl6 := hsl6.le
        have d40 : H6.c q4 0 = some (.slice (some ⟨gu, ou, none⟩) us.length zc) := by
          rw [hc6 _ _ (by omega), hc5 _ _ (by omega), hc4 _ _ (by omega)]; exact c40
        simp (disch := omega) only [go_sem, ↓reduceIte ]
        refine ⟨dkeep_last (by kernel_rfl), ?_⟩
        refine awp_draw ord3x19 (by kernel_rfl) ?_
        by_cases hi0 : i = 0
        · simp (maxSteps := 10000000) (disch := omega) only [go_sem, ↓reduceIte, ord3x19, ld1, ld2, d40]
          exact ⟨us.length - (i + 1), by omega, i + 1, ⟨rfl, by omega, rfl, by omega, (by repeat first | exact Kp.refl _ _ _ | refine Kp.dropT ?_ (.inl (by omega)) | refine Kp.put ?_ (.inl (by omega)) | refine Kp.new ?_ (by omega) | refine Kp.put ?_ (.inr (by omega)) | refine Kp.trans0 ?_ (by assumption) (by omega) | refine Kp.transS ?_ (by assumption) (by omega) (fun b hb hT => by first | omega | (dsimp only at hT ⊢; omega) | (simp only at hT ⊢; omega))) ⟩⟩
        · obtain ⟨y, hy0⟩ : ∃ y, l[i - 1]? = some y := ⟨_, List.getElem?_eq_getElem (by omega)⟩
          have hah := sorted_ahead hlu hsd hy0 (by rw [show i - 1 + 1 = i by omega]; exact hx0)
          have hsl6d := td_cells hsl6 hy0
          rw [show i - 1 = ((i : Int) - 1).toNat by omega] at hsl6d
          have y0 := hsl6d 0 (by omega)
          have y1 := hsl6d 1 (by omega)
          have y2 := hsl6d 2 (by omega)
          rw [Nat.add_zero] at y0
          simp only [Tld.cells, List.getElem?_cons_zero, List.getElem?_cons_succ] at y0 y1 y2
          simp (maxSteps := 10000000) (disch := omega) only [go_sem, ↓reduceIte, ord3x19, ld1, ld2, d40, y0, y1, z0, z1]
          refine (ahead01_c _ _ _ _ _ _).mono fun v H7 nx7 _ ⟨hv, hx7, hk7⟩ => ?_
          subst hv
          have hc7 := hk7.cell0
          cases hb : ahd y.addr y.len u.addr u.len with
          | true =>
            simp (maxSteps := 10000000) (disch := omega) only [go_sem, ↓reduceIte]
            exact ⟨dkeep_kp hk7, us.length - (i + 1), by omega, i + 1, ⟨rfl, by omega, rfl, by omega, (by repeat first | exact Kp.refl _ _ _ | refine Kp.dropT ?_ (.inl (by omega)) | refine Kp.put ?_ (.inl (by omega)) | refine Kp.new ?_ (by omega) | refine Kp.put ?_ (.inr (by omega)) | refine Kp.trans0 ?_ (by assumption) (by omega) | refine Kp.transS ?_ (by assumption) (by omega) (fun b hb hT => by first | omega | (dsimp only at hT ⊢; omega) | (simp only at hT ⊢; omega))) ⟩⟩
          | false =>
            simp only [ahd, decide_eq_false_iff_not] at hb
            unfold aheadT at hah
            have ha1 : y.addr = u.addr := by omega
            have ha2 : y.len = u.len := by omega
            have ha3 : y.who < u.who := by omega
            simp (maxSteps := 10000000) (disch := omega) only [go_sem, ↓reduceIte, hc7, y0, y1, y2, z0, z1, z2, ha1, ha2, ha3]
            exact ⟨dkeep_kp hk7, us.length - (i + 1), by omega, i + 1, ⟨rfl, by omega, rfl, by omega, (by repeat first | exact Kp.refl _ _ _ | refine Kp.dropT ?_ (.inl (by omega)) | refine Kp.put ?_ (.inl (by omega)) | refine Kp.new ?_ (by omega) | refine Kp.put ?_ (.inr (by omega)) | refine Kp.trans0 ?_ (by assumption) (by omega) | refine Kp.transS ?_ (by assumption) (by omega) (fun b hb hT => by first | omega | (dsimp only at hT ⊢; omega) | (simp only at hT ⊢; omega))) ⟩⟩
      · have h1 := hnone x hxm
        have h2 : hitC x.addr x.len x.who x = true := by simp [hitC]
        rw [h2] at h1; cases h1
    · simp (maxSteps := 10000000) (disch := omega) only [go_sem, ↓reduceIte]
      exact ⟨by omega, (by repeat first | exact Kp.refl _ _ _ | refine Kp.dropT ?_ (.inl (by omega)) | refine Kp.put ?_ (.inl (by omega)) | refine Kp.new ?_ (by omega) | refine Kp.put ?_ (.inr (by omega)) | refine Kp.trans0 ?_ (by assumption) (by omega) | refine Kp.transS ?_ (by assumption) (by omega) (fun b hb hT => by first | omega | (dsimp only at hT ⊢; omega) | (simp only at hT ⊢; omega))) ⟩
end Go.Proofs.Ytgopmklcggoliaa
