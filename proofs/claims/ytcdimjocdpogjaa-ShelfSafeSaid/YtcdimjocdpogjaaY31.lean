/- An act on both shelves: one is safe, or all names are, or one has another name, or is gone. -/
import Derived.Test.YtcdimjocdpogjaaY29
namespace Go.Proofs.Ytcdimjocdpogjaa
open Go.RowKit
set_option linter.unusedSimpArgs false

set_option maxHeartbeats 4000000 in
set_option maxRecDepth 20000 in
theorem do05_4 {N lo nx : Nat} {H : AH} {p : Nat} {f : Fs} {L : Lay} {R : Rf} {k : Nat} {a : Ac5} (hB : BoA N lo nx H p f L R k) (hN : N ≤ nx) (hk : k ≤ 900) (ha : Ac5Ok nx H a) (hbl : a.bs.length ≤ 60) (hK : a.K % 12 = 4) :
    ACalls Try.prog lo 27 #[.pointer (some ⟨p, 0, none⟩), R.val, a.val] H nx (DoP N lo nx H p f L R k a 4) := by
  refine ACalls.withLo fun hlo => ?_
  refine acalls_of_awp L27 Try.func27 rfl (by kernel_rfl) ?_
  have h1 := hB.ra.sL.one
  have h2 := hB.ra.sN.one
  have h3 := hB.ra.sW.one
  have hv := ha.s.one
  obtain ⟨hA, hA'⟩ := ha.A
  obtain ⟨hB0, hB1⟩ := ha.B
  obtain ⟨hK0, hK1⟩ := ha.K
  obtain ⟨hN0, hN1⟩ := ha.N
  have hlt : ∀ b, fpS p f L b → b < nx := fun b hb => hB.sh.fp_lt hb
  have hfi := fun i => doF_in (c := 4) (na := nm6 a.A) (nb := nm6 a.B) (n := a.N) (b := a.B) (i := i) hB.fi hB.sh.uq hbl
  unfold Rf.val shV Ac5.val
  simp (disch := omega) only [go_sem, ↓reduceIte , h1, h2, h3, hv]
  intro x hx
  simp (disch := omega) only [go_sem, ↓reduceIte , h1, h2, h3, hv]
  intro y hy
  simp (disch := omega) only [go_sem, ↓reduceIte , h1, h2, h3, hv]
  intro z hz
  simp (disch := omega) only [go_sem, ↓reduceIte , h1, h2, h3, hv, hK]
  refine (name05_c a.A hA).mono fun v H1 nx1 _ ⟨hx1, hk1, hv1⟩ => ?_
  subst hv1
  have hc1 := hk1.cell0
  have kA : Kp (fun _ => False) nx H H1 := (by repeat first | exact Kp.refl _ _ _ | refine Kp.dropT ?_ (.inl (by omega)) | refine Kp.put ?_ (.inl (by omega)) | refine Kp.new ?_ (by omega) | refine Kp.put ?_ (.inr (by omega)) | refine Kp.newO ?_ (by omega) | refine Kp.setO ?_ (.inl (by omega)) | refine Kp.setO ?_ (.inr (by omega)) | refine Kp.trans0 ?_ (by assumption) (by omega) | refine Kp.transS ?_ (by assumption) (by omega) (fun b hb hT => by first | omega | (dsimp only at hT ⊢; omega) | (simp only at hT ⊢; omega))) 
  simp (disch := omega) only [go_sem, ↓reduceIte , hc1, hv]
  refine (shSync_c (hB.sh.kp kA (by omega : nx ≤ nx1) (by simp)) (hB.fi.big (by omega)) (nm6 a.A)).mono fun v H2 nx2 _ ⟨hv2, L2, s2⟩ => ?_
  subst hv2
  have hx2 := s2.le
  have hc2 : ∀ q o, nx ≤ q → q < nx1 → H2.c q o = H1.c q o := fun q o g1 g2 => (s2.kp q g2 (fun e => by have := hlt q e; omega)).1 o
  simp (disch := omega) only [go_sem, ↓reduceIte , hc1, hc2, h1, h2, h3, hv]
  refine awp_draw ord27x16 (by kernel_rfl) ?_
  simp (disch := omega) only [go_sem, ↓reduceIte , ord27x16, hc1, hc2, h1, h2, h3, hv]
  refine (name05_c a.A hA).mono fun v H3 nx3 _ ⟨hx3, hk3, hv3⟩ => ?_
  subst hv3
  have hc3 := hk3.cell0
  simp (disch := omega) only [go_sem, ↓reduceIte , ord27x16, hc1, hc2, hc3, h1, h2, h3, hv]
  refine ⟨dkeep_kp hk3, ?_⟩
  have cr := sync05_c (lo := lo) ((hB.refAt kA (by omega : nx ≤ nx1) s2).kp hk3 hx3 (by simp)) hB.ro (by omega) (nm6 a.A)
  unfold Rf.val shV at cr
  refine cr.mono fun v H4 nx4 _ ⟨R', e, hv4, s4⟩ => ?_
  subst hv4
  have r1 := s4.a.sL.one
  have r2 := s4.a.sN.one
  have r3 := s4.a.sW.one
  have hc4 := s4.kp.cell0
  have hx4 := s4.le
  simp (disch := omega) only [go_sem, ↓reduceIte , ord27x16, hc1, hc2, hc3, hc4, r1, r2, r3]
  refine ⟨dkeep_kp (hk3.trans (U := fun _ => False) s4.kp hx3 (fun _ _ h => h) (fun _ _ h => h)), ?_⟩
  refine ⟨dkeep_last (by kernel_rfl), ?_⟩
  have hd : doF f 4 (nm6 a.A) (nm6 a.B) a.N a.B a.bs 0 = (syncR f (nm6 a.A)).2 := by simp [doF]
  have hfi' := hfi 0
  rw [hd] at hfi'
  refine ⟨R', _, 0, L2, rfl, by omega, ?_⟩
  rw [hd]
  refine (hB.close hN (a := x) (c := z) (by omega : nx ≤ x ∧ x < nx1) (by omega : nx ≤ z ∧ z < nx1) kA s2 hk3 hx3 s4 ?_ hfi').2
  repeat first | exact Kp.refl _ _ _ | refine Kp.put ?_ (.inr (.inl rfl)) | refine Kp.put ?_ (.inr (.inr rfl))

set_option maxHeartbeats 4000000 in
set_option maxRecDepth 20000 in
theorem do05_5 {N lo nx : Nat} {H : AH} {p : Nat} {f : Fs} {L : Lay} {R : Rf} {k : Nat} {a : Ac5} (hB : BoA N lo nx H p f L R k) (hN : N ≤ nx) (hk : k ≤ 900) (ha : Ac5Ok nx H a) (hbl : a.bs.length ≤ 60) (hK : a.K % 12 = 5) :
    ACalls Try.prog lo 27 #[.pointer (some ⟨p, 0, none⟩), R.val, a.val] H nx (DoP N lo nx H p f L R k a 5) := by
  refine ACalls.withLo fun hlo => ?_
  refine acalls_of_awp L27 Try.func27 rfl (by kernel_rfl) ?_
  have h1 := hB.ra.sL.one
  have h2 := hB.ra.sN.one
  have h3 := hB.ra.sW.one
  have hv := ha.s.one
  obtain ⟨hA, hA'⟩ := ha.A
  obtain ⟨hB0, hB1⟩ := ha.B
  obtain ⟨hK0, hK1⟩ := ha.K
  obtain ⟨hN0, hN1⟩ := ha.N
  have hlt : ∀ b, fpS p f L b → b < nx := fun b hb => hB.sh.fp_lt hb
  have hfi := fun i => doF_in (c := 5) (na := nm6 a.A) (nb := nm6 a.B) (n := a.N) (b := a.B) (i := i) hB.fi hB.sh.uq hbl
  unfold Rf.val shV Ac5.val
  simp (disch := omega) only [go_sem, ↓reduceIte , h1, h2, h3, hv]
  intro x hx
  simp (disch := omega) only [go_sem, ↓reduceIte , h1, h2, h3, hv]
  intro y hy
  simp (disch := omega) only [go_sem, ↓reduceIte , h1, h2, h3, hv]
  intro z hz
  simp (disch := omega) only [go_sem, ↓reduceIte , h1, h2, h3, hv, hK]
  have kA : Kp (fun _ => False) nx H (((H.new x #[R.vL, R.now.v, R.vW, .int .i64 R.room, .int .i64 R.left, .bool R.off, .int .i64 R.done] 47).new y #[.int .u8 a.K, .int .u8 a.A, .int .u8 a.B, .int .i64 a.N, a.v] 50).new z #[.slice none 0 0, .slice none 0 0, .slice none 0 0, .int .i64 0, .int .i64 0, .bool false, .int .i64 0] 47) := (by repeat first | exact Kp.refl _ _ _ | refine Kp.dropT ?_ (.inl (by omega)) | refine Kp.put ?_ (.inl (by omega)) | refine Kp.new ?_ (by omega) | refine Kp.put ?_ (.inr (by omega)) | refine Kp.newO ?_ (by omega) | refine Kp.setO ?_ (.inl (by omega)) | refine Kp.setO ?_ (.inr (by omega)) | refine Kp.trans0 ?_ (by assumption) (by omega) | refine Kp.transS ?_ (by assumption) (by omega) (fun b hb hT => by first | omega | (dsimp only at hT ⊢; omega) | (simp only at hT ⊢; omega))) 
  refine (shNames_c (hB.sh.kp kA (by omega : nx ≤ z + 1) (by simp)) (hB.fi.big (by omega)).toFsOk).mono fun v H2 nx2 _ ⟨hv2, L2, s2⟩ => ?_
  subst hv2
  have hx2 := s2.le
  have hc2 : ∀ q o, nx ≤ q → q < z + 1 → H2.c q o = (((H.new x #[R.vL, R.now.v, R.vW, .int .i64 R.room, .int .i64 R.left, .bool R.off, .int .i64 R.done] 47).new y #[.int .u8 a.K, .int .u8 a.A, .int .u8 a.B, .int .i64 a.N, a.v] 50).new z #[.slice none 0 0, .slice none 0 0, .slice none 0 0, .int .i64 0, .int .i64 0, .bool false, .int .i64 0] 47).c q o := fun q o g1 g2 => (s2.kp q g2 (fun e => by have := hlt q e; omega)).1 o
  simp (disch := omega) only [go_sem, ↓reduceIte , hc2, h1, h2, h3, hv]
  have hk3 : Kp (fun _ => False) nx2 H2 H2 := Kp.refl _ _ _
  have hx3 : nx2 ≤ nx2 := Nat.le_refl _
  have cr := names05_c (lo := lo) ((hB.refAt kA (by omega : nx ≤ z + 1) s2).kp hk3 hx3 (by simp)) hB.ro (by omega)
  unfold Rf.val shV at cr
  refine cr.mono fun v H4 nx4 _ ⟨R', e, hv4, s4⟩ => ?_
  subst hv4
  have r1 := s4.a.sL.one
  have r2 := s4.a.sN.one
  have r3 := s4.a.sW.one
  have hc4 := s4.kp.cell0
  have hx4 := s4.le
  simp (disch := omega) only [go_sem, ↓reduceIte , hc2, hc4, r1, r2, r3]
  have hd : doF f 5 (nm6 a.A) (nm6 a.B) a.N a.B a.bs 0 = (namesR f).2 := by simp [doF]
  have hfi' := hfi 0
  rw [hd] at hfi'
  refine ⟨R', _, 0, L2, rfl, by omega, ?_⟩
  rw [hd]
  refine (hB.close hN (a := x) (c := z) (by omega : nx ≤ x ∧ x < z + 1) (by omega : nx ≤ z ∧ z < z + 1) kA s2 hk3 hx3 s4 ?_ hfi').2
  repeat first | exact Kp.refl _ _ _ | refine Kp.put ?_ (.inr (.inl rfl)) | refine Kp.put ?_ (.inr (.inr rfl))

set_option maxHeartbeats 4000000 in
set_option maxRecDepth 20000 in
theorem do05_6 {N lo nx : Nat} {H : AH} {p : Nat} {f : Fs} {L : Lay} {R : Rf} {k : Nat} {a : Ac5} (hB : BoA N lo nx H p f L R k) (hN : N ≤ nx) (hk : k ≤ 900) (ha : Ac5Ok nx H a) (hbl : a.bs.length ≤ 60) (hK : a.K % 12 = 6) :
    ACalls Try.prog lo 27 #[.pointer (some ⟨p, 0, none⟩), R.val, a.val] H nx (DoP N lo nx H p f L R k a 6) := by
  refine ACalls.withLo fun hlo => ?_
  refine acalls_of_awp L27 Try.func27 rfl (by kernel_rfl) ?_
  have h1 := hB.ra.sL.one
  have h2 := hB.ra.sN.one
  have h3 := hB.ra.sW.one
  have hv := ha.s.one
  obtain ⟨hA, hA'⟩ := ha.A
  obtain ⟨hB0, hB1⟩ := ha.B
  obtain ⟨hK0, hK1⟩ := ha.K
  obtain ⟨hN0, hN1⟩ := ha.N
  have hlt : ∀ b, fpS p f L b → b < nx := fun b hb => hB.sh.fp_lt hb
  have hfi := fun i => doF_in (c := 6) (na := nm6 a.A) (nb := nm6 a.B) (n := a.N) (b := a.B) (i := i) hB.fi hB.sh.uq hbl
  unfold Rf.val shV Ac5.val
  simp (disch := omega) only [go_sem, ↓reduceIte , h1, h2, h3, hv]
  intro x hx
  simp (disch := omega) only [go_sem, ↓reduceIte , h1, h2, h3, hv]
  intro y hy
  simp (disch := omega) only [go_sem, ↓reduceIte , h1, h2, h3, hv]
  intro z hz
  simp (disch := omega) only [go_sem, ↓reduceIte , h1, h2, h3, hv, hK]
  refine awp_draw ord27x21 (by kernel_rfl) ?_
  simp (disch := omega) only [go_sem, ↓reduceIte , ord27x21, hv]
  refine (name05_c a.A hA).mono fun v H1 nx1 _ ⟨hx1, hk1, hv1⟩ => ?_
  subst hv1
  have hc1 := hk1.cell0
  have kA : Kp (fun _ => False) nx H H1 := (by repeat first | exact Kp.refl _ _ _ | refine Kp.dropT ?_ (.inl (by omega)) | refine Kp.put ?_ (.inl (by omega)) | refine Kp.new ?_ (by omega) | refine Kp.put ?_ (.inr (by omega)) | refine Kp.newO ?_ (by omega) | refine Kp.setO ?_ (.inl (by omega)) | refine Kp.setO ?_ (.inr (by omega)) | refine Kp.trans0 ?_ (by assumption) (by omega) | refine Kp.transS ?_ (by assumption) (by omega) (fun b hb hT => by first | omega | (dsimp only at hT ⊢; omega) | (simp only at hT ⊢; omega))) 
  simp (disch := omega) only [go_sem, ↓reduceIte , ord27x21, hc1, hv]
  refine ⟨dkeep_kp hk1, ?_⟩
  refine (name05_c a.B hB0).mono fun v H1b nx1b _ ⟨hx1b, hk1b, hv1b⟩ => ?_
  subst hv1b
  have hc1b := hk1b.cell0
  have kB : Kp (fun _ => False) nx H H1b := kA.trans (U := fun _ => False) hk1b (by omega) (fun _ _ h => h) (fun _ _ h => h)
  simp (disch := omega) only [go_sem, ↓reduceIte , ord27x21, hc1, hc1b, hv]
  refine ⟨dkeep_kp (hk1.trans (U := fun _ => False) hk1b hx1 (fun _ _ h => h) (fun _ _ h => h)), ?_⟩
  refine (shRename_c (hB.sh.kp kB (by omega : nx ≤ nx1b) (by simp)) (hB.fi.big (by omega)).toFsOk (nm6 a.A) (nm6 a.B)).mono fun v H2 nx2 _ ⟨hv2, L2, s2⟩ => ?_
  subst hv2
  have hx2 := s2.le
  have hc2 : ∀ q o, nx ≤ q → q < nx1b → H2.c q o = H1b.c q o := fun q o g1 g2 => (s2.kp q g2 (fun e => by have := hlt q e; omega)).1 o
  simp (disch := omega) only [go_sem, ↓reduceIte , ord27x21, hc1, hc1b, hc2, h1, h2, h3, hv]
  refine ⟨dkeep_last (by kernel_rfl), ?_⟩
  refine awp_draw ord27x22 (by kernel_rfl) ?_
  simp (disch := omega) only [go_sem, ↓reduceIte , ord27x22, hc1, hc1b, hc2, h1, h2, h3, hv]
  refine (name05_c a.A hA).mono fun v H3 nx3 _ ⟨hx3, hk3, hv3⟩ => ?_
  subst hv3
  have hc3 := hk3.cell0
  simp (disch := omega) only [go_sem, ↓reduceIte , ord27x22, hc1, hc1b, hc2, hc3, h1, h2, h3, hv]
  refine ⟨dkeep_kp hk3, ?_⟩
  refine (name05_c a.B hB0).mono fun v H3b nx3b _ ⟨hx3b, hk3b, hv3b⟩ => ?_
  subst hv3b
  have hc3b := hk3b.cell0
  have hk3c := hk3.trans (U := fun _ => False) hk3b hx3 (fun _ _ h => h) (fun _ _ h => h)
  have hx3c : nx2 ≤ nx3b := by omega
  simp (disch := omega) only [go_sem, ↓reduceIte , ord27x22, hc1, hc1b, hc2, hc3, hc3b, h1, h2, h3, hv]
  refine ⟨dkeep_kp hk3c, ?_⟩
  have cr := rename05_c (lo := lo) ((hB.refAt kB (by omega : nx ≤ nx1b) s2).kp hk3c hx3c (by simp)) hB.ro (by omega) (nm6 a.A) (nm6 a.B) (nm6_size _)
  unfold Rf.val shV at cr
  refine cr.mono fun v H4 nx4 _ ⟨R', e, hv4, s4⟩ => ?_
  subst hv4
  have r1 := s4.a.sL.one
  have r2 := s4.a.sN.one
  have r3 := s4.a.sW.one
  have hc4 := s4.kp.cell0
  have hx4 := s4.le
  simp (disch := omega) only [go_sem, ↓reduceIte , ord27x22, hc1, hc1b, hc2, hc3, hc3b, hc4, r1, r2, r3]
  refine ⟨dkeep_kp (hk3c.trans (U := fun _ => False) s4.kp hx3c (fun _ _ h => h) (fun _ _ h => h)), ?_⟩
  refine ⟨dkeep_last (by kernel_rfl), ?_⟩
  have hd : doF f 6 (nm6 a.A) (nm6 a.B) a.N a.B a.bs 0 = (renameR f (nm6 a.A) (nm6 a.B)).2 := by simp [doF]
  have hfi' := hfi 0
  rw [hd] at hfi'
  refine ⟨R', _, 0, L2, rfl, by omega, ?_⟩
  rw [hd]
  refine (hB.close hN (a := x) (c := z) (by omega : nx ≤ x ∧ x < nx1b) (by omega : nx ≤ z ∧ z < nx1b) kB s2 hk3c hx3c s4 ?_ hfi').2
  repeat first | exact Kp.refl _ _ _ | refine Kp.put ?_ (.inr (.inl rfl)) | refine Kp.put ?_ (.inr (.inr rfl))

set_option maxHeartbeats 4000000 in
set_option maxRecDepth 20000 in
theorem do05_7 {N lo nx : Nat} {H : AH} {p : Nat} {f : Fs} {L : Lay} {R : Rf} {k : Nat} {a : Ac5} (hB : BoA N lo nx H p f L R k) (hN : N ≤ nx) (hk : k ≤ 900) (ha : Ac5Ok nx H a) (hbl : a.bs.length ≤ 60) (hK : a.K % 12 = 7) :
    ACalls Try.prog lo 27 #[.pointer (some ⟨p, 0, none⟩), R.val, a.val] H nx (DoP N lo nx H p f L R k a 7) := by
  refine ACalls.withLo fun hlo => ?_
  refine acalls_of_awp L27 Try.func27 rfl (by kernel_rfl) ?_
  have h1 := hB.ra.sL.one
  have h2 := hB.ra.sN.one
  have h3 := hB.ra.sW.one
  have hv := ha.s.one
  obtain ⟨hA, hA'⟩ := ha.A
  obtain ⟨hB0, hB1⟩ := ha.B
  obtain ⟨hK0, hK1⟩ := ha.K
  obtain ⟨hN0, hN1⟩ := ha.N
  have hlt : ∀ b, fpS p f L b → b < nx := fun b hb => hB.sh.fp_lt hb
  have hfi := fun i => doF_in (c := 7) (na := nm6 a.A) (nb := nm6 a.B) (n := a.N) (b := a.B) (i := i) hB.fi hB.sh.uq hbl
  unfold Rf.val shV Ac5.val
  simp (disch := omega) only [go_sem, ↓reduceIte , h1, h2, h3, hv]
  intro x hx
  simp (disch := omega) only [go_sem, ↓reduceIte , h1, h2, h3, hv]
  intro y hy
  simp (disch := omega) only [go_sem, ↓reduceIte , h1, h2, h3, hv]
  intro z hz
  simp (disch := omega) only [go_sem, ↓reduceIte , h1, h2, h3, hv, hK]
  refine (name05_c a.A hA).mono fun v H1 nx1 _ ⟨hx1, hk1, hv1⟩ => ?_
  subst hv1
  have hc1 := hk1.cell0
  have kA : Kp (fun _ => False) nx H H1 := (by repeat first | exact Kp.refl _ _ _ | refine Kp.dropT ?_ (.inl (by omega)) | refine Kp.put ?_ (.inl (by omega)) | refine Kp.new ?_ (by omega) | refine Kp.put ?_ (.inr (by omega)) | refine Kp.newO ?_ (by omega) | refine Kp.setO ?_ (.inl (by omega)) | refine Kp.setO ?_ (.inr (by omega)) | refine Kp.trans0 ?_ (by assumption) (by omega) | refine Kp.transS ?_ (by assumption) (by omega) (fun b hb hT => by first | omega | (dsimp only at hT ⊢; omega) | (simp only at hT ⊢; omega))) 
  simp (disch := omega) only [go_sem, ↓reduceIte , hc1, hv]
  refine (shDelete_c (hB.sh.kp kA (by omega : nx ≤ nx1) (by simp)) (hB.fi.big (by omega)).toFsOk (nm6 a.A)).mono fun v H2 nx2 _ ⟨hv2, L2, s2⟩ => ?_
  subst hv2
  have hx2 := s2.le
  have hc2 : ∀ q o, nx ≤ q → q < nx1 → H2.c q o = H1.c q o := fun q o g1 g2 => (s2.kp q g2 (fun e => by have := hlt q e; omega)).1 o
  simp (disch := omega) only [go_sem, ↓reduceIte , hc1, hc2, h1, h2, h3, hv]
  refine awp_draw ord27x25 (by kernel_rfl) ?_
  simp (disch := omega) only [go_sem, ↓reduceIte , ord27x25, hc1, hc2, h1, h2, h3, hv]
  refine (name05_c a.A hA).mono fun v H3 nx3 _ ⟨hx3, hk3, hv3⟩ => ?_
  subst hv3
  have hc3 := hk3.cell0
  simp (disch := omega) only [go_sem, ↓reduceIte , ord27x25, hc1, hc2, hc3, h1, h2, h3, hv]
  refine ⟨dkeep_kp hk3, ?_⟩
  have cr := delete05_c (lo := lo) ((hB.refAt kA (by omega : nx ≤ nx1) s2).kp hk3 hx3 (by simp)) hB.ro (by omega) (nm6 a.A)
  unfold Rf.val shV at cr
  refine cr.mono fun v H4 nx4 _ ⟨R', e, hv4, s4⟩ => ?_
  subst hv4
  have r1 := s4.a.sL.one
  have r2 := s4.a.sN.one
  have r3 := s4.a.sW.one
  have hc4 := s4.kp.cell0
  have hx4 := s4.le
  simp (disch := omega) only [go_sem, ↓reduceIte , ord27x25, hc1, hc2, hc3, hc4, r1, r2, r3]
  refine ⟨dkeep_kp (hk3.trans (U := fun _ => False) s4.kp hx3 (fun _ _ h => h) (fun _ _ h => h)), ?_⟩
  refine ⟨dkeep_last (by kernel_rfl), ?_⟩
  have hd : doF f 7 (nm6 a.A) (nm6 a.B) a.N a.B a.bs 0 = (deleteR f (nm6 a.A)).2 := by simp [doF]
  have hfi' := hfi 0
  rw [hd] at hfi'
  refine ⟨R', _, 0, L2, rfl, by omega, ?_⟩
  rw [hd]
  refine (hB.close hN (a := x) (c := z) (by omega : nx ≤ x ∧ x < nx1) (by omega : nx ≤ z ∧ z < nx1) kA s2 hk3 hx3 s4 ?_ hfi').2
  repeat first | exact Kp.refl _ _ _ | refine Kp.put ?_ (.inr (.inl rfl)) | refine Kp.put ?_ (.inr (.inr rfl))
end Go.Proofs.Ytcdimjocdpogjaa
