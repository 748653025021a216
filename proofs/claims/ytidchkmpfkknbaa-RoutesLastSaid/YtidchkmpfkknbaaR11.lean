/- RoutesLast, in our own logic. -/
import Derived.Test.YtidchkmpfkknbaaR10
namespace Go.Proofs.Ytidchkmpfkknbaa
open Go.RowKit
set_option linter.unusedSimpArgs false

theorem perm_one {l : List Tld} {x : Tld} (h : l.Perm [x]) : l = [x] := List.perm_singleton.1 h
theorem perm_none {l : List Tld} (h : l.Perm []) : l = [] := List.perm_nil.1 h

set_option maxRecDepth 20000 in
set_option maxHeartbeats 4000000 in
theorem routesLast_c {lo : Nat} {H : AH} {nx : Nat} (n p s m again : Int) (n0 : 0 ≤ n) (p0 : 0 ≤ p) (p1 : p ≤ 255) (g0 : 0 ≤ again) :
    ACalls Try.prog lo 3 #[.int .u8 n, .int .u8 p, .agg #[.int .u16 s, .int .u16 m], .int .u8 again] H nx (fun v H' nx' => v = .bool true ∧ nx ≤ nx' ∧ Kp (fun _ => False) nx H H') := by
  refine ACalls.withLo fun hlo => ?_
  refine acalls_of_awp L3 Try.func3 rfl (by kernel_rfl) ?_
  simp (disch := omega) only [go_sem, ↓reduceIte ]
  intro b hb
  simp (disch := omega) only [go_sem, ↓reduceIte ]
  refine awake16_c.mono fun v H1 nx1 _ ⟨hv, hx1, hk1⟩ => ?_
  subst hv
  have hc1 := hk1.cell0
  by_cases hm : m = 65535
  · simp (disch := omega) only [go_sem, ↓reduceIte , hc1, hm]
    refine awake16_c.mono fun v H2 nx2 _ ⟨hv, hx2, hk2⟩ => ?_
    subst hv
    simp (disch := omega) only [go_sem, ↓reduceIte ]
    exact ⟨by omega, (by repeat first | exact Kp.refl _ _ _ | refine Kp.dropT ?_ (.inl (by omega)) | refine Kp.put ?_ (.inl (by omega)) | refine Kp.new ?_ (by omega) | refine Kp.put ?_ (.inr (by omega)) | refine Kp.trans0 ?_ (by assumption) (by omega) | refine Kp.transS ?_ (by assumption) (by omega) (fun b hb hT => by first | omega | (dsimp only at hT ⊢; omega) | (simp only at hT ⊢; omega))) ⟩
  obtain ⟨a0, a1, l0, l1, hpx⟩ := pfx_range p
  simp (disch := omega) only [go_sem, ↓reduceIte , hc1, hm]
  refine rnew_c.mono fun v H2 nx2 _ ⟨r, hv, hr, hR2, hx2, hk2⟩ => ?_
  subst hv
  have hc2 := hk2.cell0
  have hrl := hR2.lt
  simp (disch := omega) only [go_sem, ↓reduceIte ]
  refine awp_draw ord3x5 (by kernel_rfl) ?_
  simp (disch := omega) only [go_sem, ↓reduceIte , ord3x5, hc2, hc1]
  refine (pfx_c p p0 p1 _ _).mono fun v H3 nx3 _ ⟨hv, hx3, hk3⟩ => ?_
  subst hv
  have hR3 : RouA lo nx3 H3 r [] 0 := hR2.kp (S := fun _ => False) hk3 hx3 (by simp) (by simp)
  have hc3 := hk3.cell0
  simp (disch := omega) only [go_sem, ↓reduceIte , hc3, hc2, hc1]
  refine ⟨dkeep_kp (by repeat first | exact Kp.refl _ _ _ | refine Kp.dropT ?_ (.inl (by omega)) | refine Kp.put ?_ (.inl (by omega)) | refine Kp.new ?_ (by omega) | refine Kp.put ?_ (.inr (by omega)) | refine Kp.trans0 ?_ (by assumption) (by omega) | refine Kp.transS ?_ (by assumption) (by omega) (fun b hb hT => by first | omega | (dsimp only at hT ⊢; omega) | (simp only at hT ⊢; omega))) , ?_⟩
  have x0 : 0 ≤ n % 16 := by omega
  have x1 : n % 16 < 16 := by omega
  let t1 : Tld := ⟨pfxA p, pfxN p, n % 16, 0, s, m, 60⟩
  let t2 : Tld := ⟨pfxA p, pfxN p, n % 16, 0, s, m, 109⟩
  have ok1 : TdOk t1 := ⟨a0, a1, l0, l1, x0, x1⟩
  have ok2 : TdOk t2 := ⟨a0, a1, l0, l1, x0, x1⟩
  refine (tell_add hR3 t1 10 x0 x1 (by simp [t1]) (by simp [t1]) hpx l0 (by omega) (by omega) rfl hm (by simp) (by simp)).mono fun v H4 nx4 _ ⟨hv, hx4, hk4, own4, hR4, ho4⟩ => ?_
  subst hv
  have hc4 := hk4.cell
  have hle4 := hR4.q.choose_spec.2.le
  rw [List.nil_append] at hR4
  simp (disch := omega) only [go_sem, ↓reduceIte ]
  refine ⟨dkeep_last (by kernel_rfl), ?_⟩
  refine (rtick_c hR4 (by simp) 59).mono fun v H5 nx5 _ ⟨hv, hx5, hk5, hR5⟩ => ?_
  subst hv
  have hc5 := hk5.cell
  rw [show liveT 59 [t1] = [t1] from rfl] at hR5
  simp (disch := omega) only [go_sem, ↓reduceIte ]
  refine (rall_c hR5 (by simp only [List.mem_singleton]; rintro t rfl; exact ok1) (by simp)).mono fun v H6 nx6 _ ⟨hx6, hk6, own6, ts6, hs6, ho6, hp6, _⟩ => ?_
  have := perm_one hp6
  subst this
  obtain ⟨sa6, sc6, rfl⟩ := hs6.form
  have hc6 := hk6.cell0
  have hR6 : RouA lo nx6 H6 r [t1] own4 := hR5.kp (S := fun _ => False) hk6 hx6 (by simp) (by simp)
  simp (disch := omega) only [go_sem, ↓reduceIte , List.length_singleton]
  refine awp_draw ord3x8 (by kernel_rfl) ?_
  simp (disch := omega) only [go_sem, ↓reduceIte , ord3x8, hc6, hc5, hc4, hc3, hc2, hc1]
  refine (pfx_c p p0 p1 _ _).mono fun v H7 nx7 _ ⟨hv, hx7, hk7⟩ => ?_
  subst hv
  have hR7 : RouA lo nx7 H7 r [t1] own4 := hR6.kp (S := fun _ => False) hk7 hx7 (by simp) (by simp)
  have hc7 := hk7.cell0
  simp (disch := omega) only [go_sem, ↓reduceIte , hc7, hc6, hc5, hc4, hc3, hc2, hc1]
  refine ⟨dkeep_kp (by repeat first | exact Kp.refl _ _ _ | refine Kp.dropT ?_ (.inl (by omega)) | refine Kp.put ?_ (.inl (by omega)) | refine Kp.new ?_ (by omega) | refine Kp.put ?_ (.inr (by omega)) | refine Kp.trans0 ?_ (by assumption) (by omega) | refine Kp.transS ?_ (by assumption) (by omega) (fun b hb hT => by first | omega | (dsimp only at hT ⊢; omega) | (simp only at hT ⊢; omega))) , ?_⟩
  refine (tell_set hR7 t2 59 x0 x1 (by simp [t2]) (by simp [t2]) hpx l0 (by omega) (by omega) rfl hm (by simp) (i := 0) (t0 := t1) rfl (by simp [hitC, t1, t2]) (by omega)).mono fun v H8 nx8 _ ⟨hv, hx8, hk8, hR8⟩ => ?_
  subst hv
  have hc8 := hk8.cell
  rw [show [t1].set 0 t2 = [t2] from rfl] at hR8
  simp (disch := omega) only [go_sem, ↓reduceIte ]
  refine ⟨dkeep_last (by kernel_rfl), ?_⟩
  refine (rtick_c hR8 (by simp) (59 + again % 50)).mono fun v H9 nx9 _ ⟨hv, hx9, hk9, hR9⟩ => ?_
  subst hv
  have hlive : liveT (59 + again % 50) [t2] = [t2] := by
    simp only [liveT, List.filter_cons, List.filter_nil, t2]
    rw [if_pos (by simp; omega)]
  rw [hlive] at hR9
  simp (disch := omega) only [go_sem, ↓reduceIte ]
  refine (rall_c hR9 (by simp only [List.mem_singleton]; rintro t rfl; exact ok2) (by simp)).mono fun v H10 nx10 _ ⟨hx10, hk10, own10, ts10, hs10, ho10, hp10, _⟩ => ?_
  have := perm_one hp10
  subst this
  obtain ⟨sa10, sc10, rfl⟩ := hs10.form
  have hR10 : RouA lo nx10 H10 r [t2] own4 := hR9.kp (S := fun _ => False) hk10 hx10 (by simp) (by simp)
  simp (disch := omega) only [go_sem, ↓reduceIte , List.length_singleton]
  refine (rtick_c hR10 (by simp) 109).mono fun v H11 nx11 _ ⟨hv, hx11, hk11, hR11⟩ => ?_
  subst hv
  rw [show liveT 109 [t2] = [] from rfl] at hR11
  simp (disch := omega) only [go_sem, ↓reduceIte ]
  refine (rall_c hR11 (by simp) (by simp)).mono fun v H12 nx12 _ ⟨hx12, hk12, own12, ts12, hs12, ho12, hp12, _⟩ => ?_
  have := perm_none hp12
  subst this
  obtain ⟨sa12, sc12, rfl⟩ := hs12.form
  have hR12 : RouA lo nx12 H12 r [] own4 := hR11.kp (S := fun _ => False) hk12 hx12 (by simp) (by simp)
  simp (disch := omega) only [go_sem, ↓reduceIte , List.length_nil]
  refine snew_c.mono fun v H13 nx13 _ ⟨q, hv, hq, hQ13, hx13, hk13⟩ => ?_
  subst hv
  have hR13 : RouA lo nx13 H13 r [] own4 := hR12.kp (S := fun _ => False) hk13 hx13 (by simp) (by simp)
  simp (disch := omega) only [go_sem, ↓reduceIte ]
  refine good_c.mono fun v H14 nx14 _ ⟨d, hd, hv, hs14, hx14, hk14⟩ => ?_
  subst hv
  have hR14 : RouA lo nx14 H14 r [] own4 := hR13.kp (S := fun _ => False) hk14 hx14 (by simp) (by simp)
  simp (disch := omega) only [go_sem, ↓reduceIte ]
  refine (rselect_c (costs := [96, 96, 96, 96, 96, 96, 96, 96]) (feas := fun _ => true) hR14 (by simp) (by simp) hs14 (by simp) (by simp)).mono fun v H15 nx15 _ ⟨hx15, hk15, own15, ts15, hp15, _, hs15, ho15⟩ => ?_
  have := perm_none hp15
  subst this
  obtain ⟨sa15, sc15, rfl⟩ := hs15.form
  rw [show selR [96, 96, 96, 96, 96, 96, 96, 96] (fun _ => true) [] = [] from rfl]
  simp (disch := omega) only [go_sem, ↓reduceIte , List.length_nil]
  exact ⟨by omega, (by repeat first | exact Kp.refl _ _ _ | refine Kp.dropT ?_ (.inl (by omega)) | refine Kp.put ?_ (.inl (by omega)) | refine Kp.new ?_ (by omega) | refine Kp.put ?_ (.inr (by omega)) | refine Kp.trans0 ?_ (by assumption) (by omega) | refine Kp.transS ?_ (by assumption) (by omega) (fun b hb hT => by first | omega | (dsimp only at hT ⊢; omega) | (simp only at hT ⊢; omega))) ⟩
end Go.Proofs.Ytidchkmpfkknbaa
