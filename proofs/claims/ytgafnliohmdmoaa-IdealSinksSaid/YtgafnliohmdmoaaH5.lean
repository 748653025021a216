/- IdealSinks, in our own logic. -/
import Derived.Test.YtgafnliohmdmoaaH4
namespace Go.Proofs.Ytgafnliohmdmoaa
open Go.RowKit Go.Sort
set_option linter.unusedSimpArgs false

structure SkI (lo nx0 : Nat) (H0 : AH) (va : Value) (n p : Nat) (cs : List Chg) (own : Nat) (m : Nat) (env : Env) (H : AH) (nx i c : Nat) (safe : Int) : Prop where
  hm : m = n - i
  hi : i ≤ n
  henv : env = [(1, va), (6, .pointer (some ⟨p, 0, none⟩)), (7, .int .u64 (horF cs c)), (8, .int .i64 c), (9, .int .i64 i)]
  hx : nx0 ≤ nx
  hk : Kp (fun b => b = p) nx0 H0 H
  I : IdealA lo nx H p cs own safe c
  hc : c ≤ cs.length
  hs : safe ≤ cs.length

noncomputable def skLoop : Code := codeAt [.T, .T, .T, .T, .T, .T, .T, .H, .T, .I] ((Try.f3.body).getD .skip)
noncomputable def skBack : Code := codeAt [.T, .T, .T, .T, .T, .T, .T, .H, .T, .I, .I, .T, .H, .I, .T, .T] ((Try.f3.body).getD .skip)

set_option maxHeartbeats 8000000 in
set_option maxRecDepth 20000 in
/-- What is asked behind each act. -/
theorem sk_back {lo : Nat} {va : Value} {p : Nat} {cs : List Chg} {own i c c0 : Nat} {safe : Int} {t : Int} (hh : HistOk cs t) (hl : cs.length ≤ 60) (hcc : c0 ≤ c) (hc : c ≤ cs.length) (hs : safe ≤ cs.length) {H : AH} {nx : Nat} (I : IdealA lo nx H p cs own safe c) {K1 : Env → AH → Nat → Prop} {Q : Exit → Env → AH → Nat → Prop}
    (hK : ∀ (H2 : AH) (nx2 : Nat), nx ≤ nx2 → Kp (fun _ => False) nx H H2 → K1 [(1, va), (6, .pointer (some ⟨p, 0, none⟩)), (7, .int .u64 (horF cs c)), (8, .int .i64 c), (9, .int .i64 i), (103, .bool false)] H2 nx2) :
    awp Try.prog lo L3 skBack (blockQ 1 (thenQ K1 Q)) [(1, va), (6, .pointer (some ⟨p, 0, none⟩)), (7, .int .u64 (horF cs c0)), (8, .int .i64 c0), (9, .int .i64 i)] H nx := by
  have hcode : skBack = codeAt [.T, .T, .T, .T, .T, .T, .T, .H, .T, .I, .I, .T, .H, .I, .T, .T] ((Try.f3.body).getD .skip) := rfl
  simp only [Try.f3, Option.getD_some, codeAt_H, codeAt_T, codeAt_I, codeAt_L, codeAt_C, codeAt_P, codeAt_nil] at hcode
  rw [hcode]
  clear hcode
  have hm0 := horF_mono hh hcc hc
  have hd1 : decide (horF cs c < horF cs c0) = false := by simp; omega
  simp (disch := omega) only [go_sem, ↓reduceIte ]
  refine (ihor_c I hc).mono fun v H1 nx1 _ ⟨hv, hx1, hk1⟩ => ?_
  subst hv
  have I1 := I.kp hk1 hx1 (by simp) (by simp)
  simp (disch := omega) only [go_sem, ↓reduceIte , hd1]
  refine (icut_c I1).mono fun v H2 nx2 _ ⟨hv, hH, hx⟩ => ?_
  subst hv; subst hH; subst hx
  simp (disch := omega) only [go_sem, ↓reduceIte ]
  refine (ichanges_c I1 hc (by omega)).mono fun v H3 nx3 _ ⟨hx3, hk3, own3, hs3⟩ => ?_
  obtain ⟨ga, gc, rfl⟩ := hs3.form
  have I3 := I1.kp hk3 hx3 (by simp) (by simp)
  have hdl : (cs.drop c).length = cs.length - c := by simp
  rw [hdl]
  simp (disch := omega) only [go_sem, ↓reduceIte ]
  refine (ilen_c I3).mono fun v H4 nx4 _ ⟨hv, hH, hx⟩ => ?_
  subst hv; subst hH; subst hx
  simp (disch := omega) only [go_sem, ↓reduceIte ]
  refine (icut_c I3).mono fun v H5 nx5 _ ⟨hv, hH, hx⟩ => ?_
  subst hv; subst hH; subst hx
  simp (disch := omega) only [go_sem, ↓reduceIte ]
  refine (isafe_c I3).mono fun v H6 nx6 _ ⟨hv, hH, hx⟩ => ?_
  subst hv; subst hH; subst hx
  simp (disch := omega) only [go_sem, ↓reduceIte ]
  refine (ilen_c I3).mono fun v H7 nx7 _ ⟨hv, hH, hx⟩ => ?_
  subst hv; subst hH; subst hx
  simp (disch := omega) only [go_sem, ↓reduceIte ]
  refine (ihor_c I3 hc).mono fun v H8 nx8 _ ⟨hv, hx8, hk8⟩ => ?_
  subst hv
  have I8 := I3.kp hk8 hx8 (by simp) (by simp)
  simp (disch := omega) only [go_sem, ↓reduceIte ]
  refine (icut_c I8).mono fun v H9 nx9 _ ⟨hv, hH, hx⟩ => ?_
  subst hv; subst hH; subst hx
  simp (disch := omega) only [go_sem, ↓reduceIte ]
  refine (iat_c I8 (by omega) hc (Int.le_refl _)).mono fun v H10 nx10 _ ⟨⟨u, hv, hu⟩, hx10, hk10⟩ => ?_
  subst hv
  simp (disch := omega) only [go_sem, ↓reduceIte , hu]
  have k3 := hk1.trans (U := fun _ => False) hk3 (by omega) (fun _ _ e => e) (fun _ _ e => e)
  have k8 := k3.trans (U := fun _ => False) hk8 (by omega) (fun _ _ e => e) (fun _ _ e => e)
  have k10 := k8.trans (U := fun _ => False) hk10 (by omega) (fun _ _ e => e) (fun _ _ e => e)
  exact hK _ _ (by omega) k10
end Go.Proofs.Ytgafnliohmdmoaa
