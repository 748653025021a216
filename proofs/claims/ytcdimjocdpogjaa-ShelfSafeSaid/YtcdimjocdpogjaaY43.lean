/- ShelfSafe: its loop. -/
import Derived.Test.YtcdimjocdpogjaaY38
import Derived.Test.YtcdimjocdpogjaaY42
namespace Go.Proofs.Ytcdimjocdpogjaa
open Go.RowKit
set_option linter.unusedSimpArgs false

structure SaI (N lo : Nat) (H0 : AH) (vp va : Value) (ps : List Int) (i0 : Nat) (names bytes : Int) (acts : List Ac5) (p z : Nat) (m : Nat) (env : Env) (H : AH) (nx i : Nat) (f : Fs) (L : Lay) (R : Rf) (k : Nat) : Prop where
  hm : m = acts.length - i
  hi : i ≤ acts.length
  hk : k ≤ i + 4
  henv : env = [(0, vp), (1, va), (2, .int .i64 names), (3, .int .i64 bytes), (9, .pointer (some ⟨p, 0, none⟩)), (10, .pointer (some ⟨z, 0, none⟩)), (11, .int .i64 i)]
  t : Two N lo H0 p z H nx f L R k
  s : SafeIn nmZ ps i0 f

noncomputable def safLoop : Code := codeAt [.T, .T, .T, .T, .T, .T, .T, .T, .H, .T, .I] ((Try.f6.body).getD .skip)

set_option maxHeartbeats 4000000 in
set_option maxRecDepth 20000 in
theorem saf_loop {N lo nx0 : Nat} {H0 : AH} {vp va : Value} {ps : List Int} {i0 : Nat} {names bytes : Int} {acts : List Ac5} {own p z : Nat} (hlo : lo ≤ N) (hac : SlA N H0 5 va acts.length (acts.flatMap Ac5.cells) own) (hal : acts.length ≤ 40) (hok : ∀ a ∈ acts, Ac5Ok N H0 a) {K0 : Env → AH → Nat → Prop} {post : Value → AH → Nat → Prop} {env : Env} {H : AH} {f : Fs} {L : Lay} {R : Rf} (h0 : SaI N lo H0 vp va ps i0 names bytes acts p z acts.length env H nx0 0 f L R 4)
    (hpost : ∀ H' nx', N ≤ nx' → Kp (fun _ => False) N H0 H' → post (.bool true) H' nx')
    (hK : ∀ env H nx f L R k, SaI N lo H0 vp va ps i0 names bytes acts p z 0 env H nx acts.length f L R k → K0 (env ++ [(42, .bool false)]) H nx) : awp Try.prog lo L6 safLoop (blockQ 0 (thenQ K0 (retQ Try.prog Try.f6 post))) env H nx0 := by
  have hcode : safLoop = codeAt [.T, .T, .T, .T, .T, .T, .T, .T, .H, .T, .I] ((Try.f6.body).getD .skip) := rfl
  simp only [Try.f6, Option.getD_some, codeAt_H, codeAt_T, codeAt_I, codeAt_L, codeAt_C, codeAt_P, codeAt_nil] at hcode
  rw [hcode]
  clear hcode
  refine awp_loopX (fun m env H nx => ∃ i f L R k, SaI N lo H0 vp va ps i0 names bytes acts p z m env H nx i f L R k) acts.length ⟨0, f, L, R, 4, h0⟩ (fun env H nx => ∃ e f L R k, SaI N lo H0 vp va ps i0 names bytes acts p z 0 e H nx acts.length f L R k ∧ env = e ++ [(42, .bool false)]) (fun K hK m env H nx ⟨i, f, L, R, k, hI⟩ hn => ?_) (fun env H nx ⟨e, f, L, R, k, hI, he⟩ => by subst he; exact hK _ _ _ _ _ _ _ hI)
  obtain ⟨hm, hi, hki, henv, t, s⟩ := hI
  subst henv
  obtain ⟨aa, ac, hva⟩ := hac.form
  by_cases hlt : i < acts.length
  · obtain ⟨g, off, cap, hv, hgo⟩ := hac.open (by omega)
    have hgle := hac.le
    rw [hva] at hv
    simp only [Value.slice.injEq, true_and] at hv
    obtain ⟨rfl, rfl⟩ := hv
    have hac2 := hac
    rw [hva] at hac2
    have ha := hok _ (List.getElem_mem hlt)
    have hgt : acts[i]? = some acts[i] := List.getElem?_eq_getElem hlt
    generalize acts[i] = a at ha hgt
    have cc : ∀ j, j < 5 → H.c g (off + i * 5 + j) = a.cells[j]? := fun j hj => by
      have h1 := (t.kp g (by omega) (by simp)).1 (off + i * 5 + j)
      rw [h1]
      cases hx : a.cells[j]? with
      | none =>
        rw [List.getElem?_eq_none_iff] at hx
        have := ac5_len a
        omega
      | some w =>
        have := hac2.cells.1 (5 * i + j) w (by rw [flat_get ac5_len _ i _ hgt j (by omega)]; exact hx)
        rwa [show off + (5 * i + j) = off + i * 5 + j by omega] at this
    have a0 : H.c g (off + i * 5) = some (.int .u8 a.K) := cc 0 (by omega)
    have a1 : H.c g (off + i * 5 + 1) = some (.int .u8 a.A) := cc 1 (by omega)
    have a2 : H.c g (off + i * 5 + (1 + 1)) = some (.int .u8 a.B) := cc 2 (by omega)
    have a3 : H.c g (off + i * 5 + (1 + 1 + 1)) = some (.int .i64 a.N) := cc 3 (by omega)
    have a4 : H.c g (off + i * 5 + (1 + 1 + 1 + 1)) = some a.v := cc 4 (by omega)
    obtain ⟨pa, pc, hav⟩ := ha.s.form
    rw [hav] at a4
    have hK0 := ha.K
    by_cases hbl : a.bs.length ≤ 60
    · by_cases h10 : a.K % 12 = 10
      · simp (disch := omega) only [go_sem, ↓reduceIte , hva, a0, a1, a2, a3, a4, h10, decide_true, decide_false]
        exact ⟨acts.length - (i + 1), by omega, i + 1, f, L, R, k, ⟨by omega, by omega, by omega, by simp, t, s⟩⟩
      · simp (disch := omega) only [go_sem, ↓reduceIte , hva, a0, a1, a2, a3, a4, h10, decide_true, decide_false]
        refine awp_draw ord6x16 (by kernel_rfl) ?_
        obtain ⟨B, le, kp, c0, c1, c2, c3, c4, c5, c6, zS, zR, z0, z1⟩ := t
        have t : Two N lo H0 p z H nx f L R k := ⟨B, le, kp, c0, c1, c2, c3, c4, c5, c6, zS, zR, z0, z1⟩
        have g1 := B.ra.sL.one
        have g2 := B.ra.sN.one
        have g3 := B.ra.sW.one
        simp (disch := omega) only [go_sem, ↓reduceIte , ord6x16, c0, c1, c2, c3, c4, c5, c6, a0, a1, a2, a3, a4, hav]
        have hdo := do05_c (lo := lo) B le (by omega) (ha.kp kp le (by simp)) (by have := ha.s.le; omega) hbl h10
        unfold Rf.val shV Ac5.val at hdo
        rw [hav] at hdo
        refine hdo.mono fun v H1 nx1 _ ⟨R', b, i', L', hv1, hx1, hk1, B', s1, s2⟩ => ?_
        subst hv1
        unfold Rf.val shV
        have r1 := B'.ra.sL.one
        have r2 := B'.ra.sN.one
        have r3 := B'.ra.sW.one
        have e0 : ∀ j, H1.c z j = H.c z j := fun j => (hk1 z z1 zS).1 j
        simp (disch := omega) only [go_sem, ↓reduceIte , ord6x16, e0, c0, c1, c2, c3, c4, c5, c6, r1, r2, r3, Option.isSome_some, true_and]
        have t' := t.put hx1 hk1 B' s1 s2
        have s' := s.doF empty_z (nm6_z a.A) (nm6_z a.B) B'.sh.uq
        refine ⟨dkeep_last (by kernel_rfl), ?_⟩
        refine ⟨dkeep_last (by kernel_rfl), ?_⟩
        exact ⟨acts.length - (i + 1), by omega, i + 1, _, L', R', k + 1, ⟨by omega, by omega, by omega, by simp, t', s'⟩⟩
    · simp (disch := omega) only [go_sem, ↓reduceIte , hva, a0, a1, a2, a3, a4]
      exact hpost _ _ t.le t.kp
  · have ei : i = acts.length := by omega
    subst ei
    simp (disch := omega) only [go_sem, ↓reduceIte , hva]
    refine hK _ _ _ ⟨_, f, L, R, k, ⟨by omega, by omega, by omega, rfl, t, s⟩, ?_⟩
    rw [hva]
    rfl
end Go.Proofs.Ytcdimjocdpogjaa
