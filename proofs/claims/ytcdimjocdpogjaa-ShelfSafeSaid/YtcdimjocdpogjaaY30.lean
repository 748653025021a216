/- An act on both shelves: a file is made, bytes come behind. -/
import Derived.Test.YtcdimjocdpogjaaY29
namespace Go.Proofs.Ytcdimjocdpogjaa
open Go.RowKit
set_option linter.unusedSimpArgs false

set_option maxHeartbeats 4000000 in
set_option maxRecDepth 20000 in
theorem do05_0 {N lo nx : Nat} {H : AH} {p : Nat} {f : Fs} {L : Lay} {R : Rf} {k : Nat} {a : Ac5} (hB : BoA N lo nx H p f L R k) (hN : N ≤ nx) (hk : k ≤ 900) (ha : Ac5Ok nx H a) (hbl : a.bs.length ≤ 60) (hK : a.K % 12 = 0) :
    ACalls Try.prog lo 27 #[.pointer (some ⟨p, 0, none⟩), R.val, a.val] H nx (DoP N lo nx H p f L R k a 0) := by
  refine ACalls.withLo fun hlo => ?_
  refine acalls_of_awp L27 Try.func27 rfl (by kernel_rfl) ?_
  have h1 := hB.ra.sL.one
  have h2 := hB.ra.sN.one
  have h3 := hB.ra.sW.one
  have hv := ha.s.one
  obtain ⟨hA, hA'⟩ := ha.A
  obtain ⟨hB0, hB1⟩ := ha.B
  obtain ⟨hK0, hK1⟩ := ha.K
  obtain ⟨hN0, hN1⟩ := ha.N
  have hlt : ∀ b, fpS p f L b → b < nx := fun b hb => hB.sh.fp_lt hb
  have hfi := fun i => doF_in (c := 0) (na := nm6 a.A) (nb := nm6 a.B) (n := a.N) (b := a.B) (i := i) hB.fi hB.sh.uq hbl
  unfold Rf.val shV Ac5.val
  simp (disch := omega) only [go_sem, ↓reduceIte , h1, h2, h3, hv]
  intro x hx
  simp (disch := omega) only [go_sem, ↓reduceIte , h1, h2, h3, hv]
  intro y hy
  simp (disch := omega) only [go_sem, ↓reduceIte , h1, h2, h3, hv]
  intro z hz
  simp (disch := omega) only [go_sem, ↓reduceIte , h1, h2, h3, hv, hK]
  refine (name05_c a.A hA).mono fun v H1 nx1 _ ⟨hx1, hk1, hv1⟩ => ?_
  subst hv1
  have hc1 := hk1.cell0
  have kA : Kp (fun _ => False) nx H H1 := (by repeat first | exact Kp.refl _ _ _ | refine Kp.dropT ?_ (.inl (by omega)) | refine Kp.put ?_ (.inl (by omega)) | refine Kp.new ?_ (by omega) | refine Kp.put ?_ (.inr (by omega)) | refine Kp.newO ?_ (by omega) | refine Kp.setO ?_ (.inl (by omega)) | refine Kp.setO ?_ (.inr (by omega)) | refine Kp.trans0 ?_ (by assumption) (by omega) | refine Kp.transS ?_ (by assumption) (by omega) (fun b hb hT => by first | omega | (dsimp only at hT ⊢; omega) | (simp only at hT ⊢; omega))) 
  simp (disch := omega) only [go_sem, ↓reduceIte , hc1, hv]
  refine (shCreate_c (hB.sh.kp kA (by omega : nx ≤ nx1) (by simp)) (hB.fi.big (by omega)).toFsOk (nm6 a.A)).mono fun v H2 nx2 _ ⟨i, hi, hv2, L2, s2⟩ => ?_
  subst hv2
  have hx2 := s2.le
  have hc2 : ∀ q o, nx ≤ q → q < nx1 → H2.c q o = H1.c q o := fun q o g1 g2 => (s2.kp q g2 (fun e => by have := hlt q e; omega)).1 o
  simp (disch := omega) only [go_sem, ↓reduceIte , hc1, hc2, h1, h2, h3, hv]
  refine awp_draw ord27x9 (by kernel_rfl) ?_
  simp (disch := omega) only [go_sem, ↓reduceIte , ord27x9, hc1, hc2, h1, h2, h3, hv]
  refine (name05_c a.A hA).mono fun v H3 nx3 _ ⟨hx3, hk3, hv3⟩ => ?_
  subst hv3
  have hc3 := hk3.cell0
  simp (disch := omega) only [go_sem, ↓reduceIte , ord27x9, hc1, hc2, hc3, h1, h2, h3, hv]
  refine ⟨dkeep_kp hk3, ?_⟩
  have cr := create05_c (lo := lo) ((hB.refAt kA (by omega : nx ≤ nx1) s2).kp hk3 hx3 (by simp)) hB.ro (by omega) (nm6 a.A) (nm6_size _)
  unfold Rf.val shV at cr
  refine cr.mono fun v H4 nx4 _ ⟨R', e, hv4, s4⟩ => ?_
  subst hv4
  have r1 := s4.a.sL.one
  have r2 := s4.a.sN.one
  have r3 := s4.a.sW.one
  have hc4 := s4.kp.cell0
  have hx4 := s4.le
  simp (disch := omega) only [go_sem, ↓reduceIte , ord27x9, hc1, hc2, hc3, hc4, r1, r2, r3]
  refine ⟨dkeep_kp (hk3.trans (U := fun _ => False) s4.kp hx3 (fun _ _ h => h) (fun _ _ h => h)), ?_⟩
  refine ⟨dkeep_last (by kernel_rfl), ?_⟩
  have hd : doF f 0 (nm6 a.A) (nm6 a.B) a.N a.B a.bs i = (createR f (nm6 a.A) i).2 := by simp [doF]
  have hfi' := hfi i
  rw [hd] at hfi'
  refine ⟨R', _, i, L2, rfl, by omega, ?_⟩
  rw [hd]
  refine (hB.close hN (a := x) (c := z) (by omega : nx ≤ x ∧ x < nx1) (by omega : nx ≤ z ∧ z < nx1) kA s2 hk3 hx3 s4 ?_ hfi').2
  repeat first | exact Kp.refl _ _ _ | refine Kp.put ?_ (.inr (.inl rfl)) | refine Kp.put ?_ (.inr (.inr rfl))

set_option maxHeartbeats 4000000 in
set_option maxRecDepth 20000 in
theorem do05_1 {N lo nx : Nat} {H : AH} {p : Nat} {f : Fs} {L : Lay} {R : Rf} {k : Nat} {a : Ac5} (hB : BoA N lo nx H p f L R k) (hN : N ≤ nx) (hk : k ≤ 900) (ha : Ac5Ok nx H a) (hbl : a.bs.length ≤ 60) (hK : a.K % 12 = 1) :
    ACalls Try.prog lo 27 #[.pointer (some ⟨p, 0, none⟩), R.val, a.val] H nx (DoP N lo nx H p f L R k a 1) := by
  refine ACalls.withLo fun hlo => ?_
  refine acalls_of_awp L27 Try.func27 rfl (by kernel_rfl) ?_
  have h1 := hB.ra.sL.one
  have h2 := hB.ra.sN.one
  have h3 := hB.ra.sW.one
  have hv := ha.s.one
  obtain ⟨hA, hA'⟩ := ha.A
  obtain ⟨hB0, hB1⟩ := ha.B
  obtain ⟨hK0, hK1⟩ := ha.K
  obtain ⟨hN0, hN1⟩ := ha.N
  have hlt : ∀ b, fpS p f L b → b < nx := fun b hb => hB.sh.fp_lt hb
  have hfi := fun i => doF_in (c := 1) (na := nm6 a.A) (nb := nm6 a.B) (n := a.N) (b := a.B) (i := i) hB.fi hB.sh.uq hbl
  unfold Rf.val shV Ac5.val
  simp (disch := omega) only [go_sem, ↓reduceIte , h1, h2, h3, hv]
  intro x hx
  simp (disch := omega) only [go_sem, ↓reduceIte , h1, h2, h3, hv]
  intro y hy
  simp (disch := omega) only [go_sem, ↓reduceIte , h1, h2, h3, hv]
  intro z hz
  simp (disch := omega) only [go_sem, ↓reduceIte , h1, h2, h3, hv, hK]
  refine (name05_c a.A hA).mono fun v H1 nx1 _ ⟨hx1, hk1, hv1⟩ => ?_
  subst hv1
  have hc1 := hk1.cell0
  have kA : Kp (fun _ => False) nx H H1 := (by repeat first | exact Kp.refl _ _ _ | refine Kp.dropT ?_ (.inl (by omega)) | refine Kp.put ?_ (.inl (by omega)) | refine Kp.new ?_ (by omega) | refine Kp.put ?_ (.inr (by omega)) | refine Kp.newO ?_ (by omega) | refine Kp.setO ?_ (.inl (by omega)) | refine Kp.setO ?_ (.inr (by omega)) | refine Kp.trans0 ?_ (by assumption) (by omega) | refine Kp.transS ?_ (by assumption) (by omega) (fun b hb hT => by first | omega | (dsimp only at hT ⊢; omega) | (simp only at hT ⊢; omega))) 
  simp (disch := omega) only [go_sem, ↓reduceIte , hc1, hv]
  refine (shCreate_c (hB.sh.kp kA (by omega : nx ≤ nx1) (by simp)) (hB.fi.big (by omega)).toFsOk (nm6 a.A)).mono fun v H2 nx2 _ ⟨i, hi, hv2, L2, s2⟩ => ?_
  subst hv2
  have hx2 := s2.le
  have hc2 : ∀ q o, nx ≤ q → q < nx1 → H2.c q o = H1.c q o := fun q o g1 g2 => (s2.kp q g2 (fun e => by have := hlt q e; omega)).1 o
  simp (disch := omega) only [go_sem, ↓reduceIte , hc1, hc2, h1, h2, h3, hv]
  refine awp_draw ord27x9 (by kernel_rfl) ?_
  simp (disch := omega) only [go_sem, ↓reduceIte , ord27x9, hc1, hc2, h1, h2, h3, hv]
  refine (name05_c a.A hA).mono fun v H3 nx3 _ ⟨hx3, hk3, hv3⟩ => ?_
  subst hv3
  have hc3 := hk3.cell0
  simp (disch := omega) only [go_sem, ↓reduceIte , ord27x9, hc1, hc2, hc3, h1, h2, h3, hv]
  refine ⟨dkeep_kp hk3, ?_⟩
  have cr := create05_c (lo := lo) ((hB.refAt kA (by omega : nx ≤ nx1) s2).kp hk3 hx3 (by simp)) hB.ro (by omega) (nm6 a.A) (nm6_size _)
  unfold Rf.val shV at cr
  refine cr.mono fun v H4 nx4 _ ⟨R', e, hv4, s4⟩ => ?_
  subst hv4
  have r1 := s4.a.sL.one
  have r2 := s4.a.sN.one
  have r3 := s4.a.sW.one
  have hc4 := s4.kp.cell0
  have hx4 := s4.le
  simp (disch := omega) only [go_sem, ↓reduceIte , ord27x9, hc1, hc2, hc3, hc4, r1, r2, r3]
  refine ⟨dkeep_kp (hk3.trans (U := fun _ => False) s4.kp hx3 (fun _ _ h => h) (fun _ _ h => h)), ?_⟩
  refine ⟨dkeep_last (by kernel_rfl), ?_⟩
  have hd : doF f 1 (nm6 a.A) (nm6 a.B) a.N a.B a.bs i = (createR f (nm6 a.A) i).2 := by simp [doF]
  have hfi' := hfi i
  rw [hd] at hfi'
  refine ⟨R', _, i, L2, rfl, by omega, ?_⟩
  rw [hd]
  refine (hB.close hN (a := x) (c := z) (by omega : nx ≤ x ∧ x < nx1) (by omega : nx ≤ z ∧ z < nx1) kA s2 hk3 hx3 s4 ?_ hfi').2
  repeat first | exact Kp.refl _ _ _ | refine Kp.put ?_ (.inr (.inl rfl)) | refine Kp.put ?_ (.inr (.inr rfl))

set_option maxHeartbeats 4000000 in
set_option maxRecDepth 20000 in
theorem do05_2 {N lo nx : Nat} {H : AH} {p : Nat} {f : Fs} {L : Lay} {R : Rf} {k : Nat} {a : Ac5} (hB : BoA N lo nx H p f L R k) (hN : N ≤ nx) (hk : k ≤ 900) (ha : Ac5Ok nx H a) (hao : a.own ≤ N) (hbl : a.bs.length ≤ 60) (hK : a.K % 12 = 2) :
    ACalls Try.prog lo 27 #[.pointer (some ⟨p, 0, none⟩), R.val, a.val] H nx (DoP N lo nx H p f L R k a 2) := by
  refine ACalls.withLo fun hlo => ?_
  refine acalls_of_awp L27 Try.func27 rfl (by kernel_rfl) ?_
  have h1 := hB.ra.sL.one
  have h2 := hB.ra.sN.one
  have h3 := hB.ra.sW.one
  have hv := ha.s.one
  obtain ⟨hA, hA'⟩ := ha.A
  obtain ⟨hB0, hB1⟩ := ha.B
  obtain ⟨hK0, hK1⟩ := ha.K
  obtain ⟨hN0, hN1⟩ := ha.N
  have hlt : ∀ b, fpS p f L b → b < nx := fun b hb => hB.sh.fp_lt hb
  have hfi := fun i => doF_in (c := 2) (na := nm6 a.A) (nb := nm6 a.B) (n := a.N) (b := a.B) (i := i) hB.fi hB.sh.uq hbl
  unfold Rf.val shV Ac5.val
  simp (disch := omega) only [go_sem, ↓reduceIte , h1, h2, h3, hv]
  intro x hx
  simp (disch := omega) only [go_sem, ↓reduceIte , h1, h2, h3, hv]
  intro y hy
  simp (disch := omega) only [go_sem, ↓reduceIte , h1, h2, h3, hv]
  intro z hz
  simp (disch := omega) only [go_sem, ↓reduceIte , h1, h2, h3, hv, hK]
  refine awp_draw ord27x12 (by kernel_rfl) ?_
  simp (disch := omega) only [go_sem, ↓reduceIte , ord27x12, hv]
  refine (name05_c a.A hA).mono fun v H1 nx1 _ ⟨hx1, hk1, hv1⟩ => ?_
  subst hv1
  have hc1 := hk1.cell0
  have kA : Kp (fun _ => False) nx H H1 := (by repeat first | exact Kp.refl _ _ _ | refine Kp.dropT ?_ (.inl (by omega)) | refine Kp.put ?_ (.inl (by omega)) | refine Kp.new ?_ (by omega) | refine Kp.put ?_ (.inr (by omega)) | refine Kp.newO ?_ (by omega) | refine Kp.setO ?_ (.inl (by omega)) | refine Kp.setO ?_ (.inr (by omega)) | refine Kp.trans0 ?_ (by assumption) (by omega) | refine Kp.transS ?_ (by assumption) (by omega) (fun b hb hT => by first | omega | (dsimp only at hT ⊢; omega) | (simp only at hT ⊢; omega))) 
  simp (disch := omega) only [go_sem, ↓reduceIte , ord27x12, hc1, hv]
  refine ⟨dkeep_kp hk1, ?_⟩
  refine (shAppend_c (hB.sh.kp kA (by omega : nx ≤ nx1) (by simp)) (hB.fi.big (by omega)) (nm6 a.A) (ha.s.kp kA (by omega : nx ≤ nx1) (by simp)) (by omega) (fun b e g => by have := hB.low b g; omega)).mono fun v H2 nx2 _ ⟨hv2, L2, s2⟩ => ?_
  subst hv2
  have hx2 := s2.le
  have hc2 : ∀ q o, nx ≤ q → q < nx1 → H2.c q o = H1.c q o := fun q o g1 g2 => (s2.kp q g2 (fun e => by have := hlt q e; omega)).1 o
  simp (disch := omega) only [go_sem, ↓reduceIte , ord27x12, hc1, hc2, h1, h2, h3, hv]
  refine ⟨dkeep_last (by kernel_rfl), ?_⟩
  refine awp_draw ord27x13 (by kernel_rfl) ?_
  simp (disch := omega) only [go_sem, ↓reduceIte , ord27x13, hc1, hc2, h1, h2, h3, hv]
  refine (name05_c a.A hA).mono fun v H3 nx3 _ ⟨hx3, hk3, hv3⟩ => ?_
  subst hv3
  have hc3 := hk3.cell0
  simp (disch := omega) only [go_sem, ↓reduceIte , ord27x13, hc1, hc2, hc3, h1, h2, h3, hv]
  refine ⟨dkeep_kp hk3, ?_⟩
  have cr := append05_c (lo := lo) ((hB.refAt kA (by omega : nx ≤ nx1) s2).kp hk3 hx3 (by simp)) hB.ro (by omega) (nm6 a.A) (((ha.s.kp kA (by omega : nx ≤ nx1) (by simp)).kp s2.kp s2.le (fun b e g => by have := hB.low b g; omega)).kp hk3 hx3 (by simp)) hbl
  unfold Rf.val shV at cr
  refine cr.mono fun v H4 nx4 _ ⟨R', e, hv4, s4⟩ => ?_
  subst hv4
  have r1 := s4.a.sL.one
  have r2 := s4.a.sN.one
  have r3 := s4.a.sW.one
  have hc4 := s4.kp.cell0
  have hx4 := s4.le
  simp (disch := omega) only [go_sem, ↓reduceIte , ord27x13, hc1, hc2, hc3, hc4, r1, r2, r3]
  refine ⟨dkeep_kp (hk3.trans (U := fun _ => False) s4.kp hx3 (fun _ _ h => h) (fun _ _ h => h)), ?_⟩
  refine ⟨dkeep_last (by kernel_rfl), ?_⟩
  have hd : doF f 2 (nm6 a.A) (nm6 a.B) a.N a.B a.bs 0 = (appendR f (nm6 a.A) a.bs).2 := by simp [doF]
  have hfi' := hfi 0
  rw [hd] at hfi'
  refine ⟨R', _, 0, L2, rfl, by omega, ?_⟩
  rw [hd]
  refine (hB.close hN (a := x) (c := z) (by omega : nx ≤ x ∧ x < nx1) (by omega : nx ≤ z ∧ z < nx1) kA s2 hk3 hx3 s4 ?_ hfi').2
  repeat first | exact Kp.refl _ _ _ | refine Kp.put ?_ (.inr (.inl rfl)) | refine Kp.put ?_ (.inr (.inr rfl))

set_option maxHeartbeats 4000000 in
set_option maxRecDepth 20000 in
theorem do05_3 {N lo nx : Nat} {H : AH} {p : Nat} {f : Fs} {L : Lay} {R : Rf} {k : Nat} {a : Ac5} (hB : BoA N lo nx H p f L R k) (hN : N ≤ nx) (hk : k ≤ 900) (ha : Ac5Ok nx H a) (hao : a.own ≤ N) (hbl : a.bs.length ≤ 60) (hK : a.K % 12 = 3) :
    ACalls Try.prog lo 27 #[.pointer (some ⟨p, 0, none⟩), R.val, a.val] H nx (DoP N lo nx H p f L R k a 3) := by
  refine ACalls.withLo fun hlo => ?_
  refine acalls_of_awp L27 Try.func27 rfl (by kernel_rfl) ?_
  have h1 := hB.ra.sL.one
  have h2 := hB.ra.sN.one
  have h3 := hB.ra.sW.one
  have hv := ha.s.one
  obtain ⟨hA, hA'⟩ := ha.A
  obtain ⟨hB0, hB1⟩ := ha.B
  obtain ⟨hK0, hK1⟩ := ha.K
  obtain ⟨hN0, hN1⟩ := ha.N
  have hlt : ∀ b, fpS p f L b → b < nx := fun b hb => hB.sh.fp_lt hb
  have hfi := fun i => doF_in (c := 3) (na := nm6 a.A) (nb := nm6 a.B) (n := a.N) (b := a.B) (i := i) hB.fi hB.sh.uq hbl
  unfold Rf.val shV Ac5.val
  simp (disch := omega) only [go_sem, ↓reduceIte , h1, h2, h3, hv]
  intro x hx
  simp (disch := omega) only [go_sem, ↓reduceIte , h1, h2, h3, hv]
  intro y hy
  simp (disch := omega) only [go_sem, ↓reduceIte , h1, h2, h3, hv]
  intro z hz
  simp (disch := omega) only [go_sem, ↓reduceIte , h1, h2, h3, hv, hK]
  refine awp_draw ord27x12 (by kernel_rfl) ?_
  simp (disch := omega) only [go_sem, ↓reduceIte , ord27x12, hv]
  refine (name05_c a.A hA).mono fun v H1 nx1 _ ⟨hx1, hk1, hv1⟩ => ?_
  subst hv1
  have hc1 := hk1.cell0
  have kA : Kp (fun _ => False) nx H H1 := (by repeat first | exact Kp.refl _ _ _ | refine Kp.dropT ?_ (.inl (by omega)) | refine Kp.put ?_ (.inl (by omega)) | refine Kp.new ?_ (by omega) | refine Kp.put ?_ (.inr (by omega)) | refine Kp.newO ?_ (by omega) | refine Kp.setO ?_ (.inl (by omega)) | refine Kp.setO ?_ (.inr (by omega)) | refine Kp.trans0 ?_ (by assumption) (by omega) | refine Kp.transS ?_ (by assumption) (by omega) (fun b hb hT => by first | omega | (dsimp only at hT ⊢; omega) | (simp only at hT ⊢; omega))) 
  simp (disch := omega) only [go_sem, ↓reduceIte , ord27x12, hc1, hv]
  refine ⟨dkeep_kp hk1, ?_⟩
  refine (shAppend_c (hB.sh.kp kA (by omega : nx ≤ nx1) (by simp)) (hB.fi.big (by omega)) (nm6 a.A) (ha.s.kp kA (by omega : nx ≤ nx1) (by simp)) (by omega) (fun b e g => by have := hB.low b g; omega)).mono fun v H2 nx2 _ ⟨hv2, L2, s2⟩ => ?_
  subst hv2
  have hx2 := s2.le
  have hc2 : ∀ q o, nx ≤ q → q < nx1 → H2.c q o = H1.c q o := fun q o g1 g2 => (s2.kp q g2 (fun e => by have := hlt q e; omega)).1 o
  simp (disch := omega) only [go_sem, ↓reduceIte , ord27x12, hc1, hc2, h1, h2, h3, hv]
  refine ⟨dkeep_last (by kernel_rfl), ?_⟩
  refine awp_draw ord27x13 (by kernel_rfl) ?_
  simp (disch := omega) only [go_sem, ↓reduceIte , ord27x13, hc1, hc2, h1, h2, h3, hv]
  refine (name05_c a.A hA).mono fun v H3 nx3 _ ⟨hx3, hk3, hv3⟩ => ?_
  subst hv3
  have hc3 := hk3.cell0
  simp (disch := omega) only [go_sem, ↓reduceIte , ord27x13, hc1, hc2, hc3, h1, h2, h3, hv]
  refine ⟨dkeep_kp hk3, ?_⟩
  have cr := append05_c (lo := lo) ((hB.refAt kA (by omega : nx ≤ nx1) s2).kp hk3 hx3 (by simp)) hB.ro (by omega) (nm6 a.A) (((ha.s.kp kA (by omega : nx ≤ nx1) (by simp)).kp s2.kp s2.le (fun b e g => by have := hB.low b g; omega)).kp hk3 hx3 (by simp)) hbl
  unfold Rf.val shV at cr
  refine cr.mono fun v H4 nx4 _ ⟨R', e, hv4, s4⟩ => ?_
  subst hv4
  have r1 := s4.a.sL.one
  have r2 := s4.a.sN.one
  have r3 := s4.a.sW.one
  have hc4 := s4.kp.cell0
  have hx4 := s4.le
  simp (disch := omega) only [go_sem, ↓reduceIte , ord27x13, hc1, hc2, hc3, hc4, r1, r2, r3]
  refine ⟨dkeep_kp (hk3.trans (U := fun _ => False) s4.kp hx3 (fun _ _ h => h) (fun _ _ h => h)), ?_⟩
  refine ⟨dkeep_last (by kernel_rfl), ?_⟩
  have hd : doF f 3 (nm6 a.A) (nm6 a.B) a.N a.B a.bs 0 = (appendR f (nm6 a.A) a.bs).2 := by simp [doF]
  have hfi' := hfi 0
  rw [hd] at hfi'
  refine ⟨R', _, 0, L2, rfl, by omega, ?_⟩
  rw [hd]
  refine (hB.close hN (a := x) (c := z) (by omega : nx ≤ x ∧ x < nx1) (by omega : nx ≤ z ∧ z < nx1) kA s2 hk3 hx3 s4 ?_ hfi').2
  repeat first | exact Kp.refl _ _ _ | refine Kp.put ?_ (.inr (.inl rfl)) | refine Kp.put ?_ (.inr (.inr rfl))
end Go.Proofs.Ytcdimjocdpogjaa
