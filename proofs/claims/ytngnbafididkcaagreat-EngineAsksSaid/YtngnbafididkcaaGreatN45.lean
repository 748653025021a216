/- EngineAsks: in our own logic: its loop. -/
import Derived.Test.YtngnbafididkcaaGreatN43
namespace Go.Proofs.YtngnbafididkcaaGreat
open Go.RowKit
set_option linter.unusedSimpArgs false

structure AkI (nx1 : Nat) (M : AH) (Y : List Prt) (x s p ask : Int) (pt b12 : Nat) (m : Nat) (env : Env) (H : AH) (nx i : Nat) : Prop where
  hm : m = Y.length - i
  hi : i ≤ Y.length
  henv : env = [(0, .int .u16 x), (1, .int .u16 s), (2, .int .u8 p), (3, .int .u16 ask), (9, .pointer (some ⟨pt, 0, none⟩)), (11, .bool false), (12, .pointer (some ⟨b12, 0, none⟩)), (14, .bool ((Y.take i).any (isAsk p s))), (15, .int .i64 i)]
  hx : nx1 ≤ nx
  hk : Kp (fun _ => False) nx1 M H
noncomputable def akL : Code := codeAt [.T, .T, .T, .T, .T, .T, .T, .T, .T, .T, .H, .T, .I] ((Tryz.f9.body).getD .skip)
set_option maxHeartbeats 4000000 in
set_option maxRecDepth 20000 in
theorem asks_loop {lo nx1 : Nat} {M : AH} {Y : List Prt} {p s x ask : Int} {pt b12 own : Nat} {v : Value} {K0 : Env → AH → Nat → Prop} {Q : Exit → Env → AH → Nat → Prop}
    (hp : 0 ≤ p ∧ p ≤ 255) (_hlo : lo ≤ nx1) (hs : SlA nx1 M 7 v Y.length (ptCells Y) own) (c12 : M.c b12 1 = some v) (l12 : b12 < nx1)
    (hK : ∀ H nx, nx1 ≤ nx → Kp (fun _ => False) nx1 M H → K0 [(0, .int .u16 x), (1, .int .u16 s), (2, .int .u8 p), (3, .int .u16 ask), (9, .pointer (some ⟨pt, 0, none⟩)), (11, .bool false), (12, .pointer (some ⟨b12, 0, none⟩)), (14, .bool (Y.any (isAsk p s))), (15, .int .i64 Y.length), (66, .bool false)] H nx) :
    awp Tryz.prog lo L9 akL (blockQ 0 (thenQ K0 Q)) [(0, .int .u16 x), (1, .int .u16 s), (2, .int .u8 p), (3, .int .u16 ask), (9, .pointer (some ⟨pt, 0, none⟩)), (11, .bool false), (12, .pointer (some ⟨b12, 0, none⟩)), (14, .bool false), (15, .int .i64 (0 : Nat))] M nx1 := by
  have hcode : akL = codeAt [.T, .T, .T, .T, .T, .T, .T, .T, .T, .T, .H, .T, .I] ((Tryz.f9.body).getD .skip) := rfl
  simp only [Tryz.f9, Option.getD_some, codeAt_H, codeAt_T, codeAt_I, codeAt_L, codeAt_C, codeAt_P, codeAt_nil] at hcode
  rw [hcode]
  clear hcode
  refine awp_loop (fun m env H nx => ∃ i, AkI nx1 M Y x s p ask pt b12 m env H nx i) Y.length ⟨0, ⟨by omega, by omega, rfl, Nat.le_refl _, Kp.refl _ _ _⟩⟩ (fun m env H nx ⟨i, hI⟩ hn => ?_)
  obtain ⟨hm, hi, henv, hx, hk⟩ := hI
  subst henv
  have c12e : H.c b12 1 = some v := by rw [hk.cell0 b12 _ l12]; exact c12
  have hs1 := hs.kp hk hx (by simp)
  obtain ⟨aa, ac, rfl⟩ := hs.form
  have hone := hs.one
  have hmx := hs.maxLen
  simp only [maxLen] at hmx
  by_cases hlt : i < Y.length
  · obtain ⟨g, off, cap, hv, hgo⟩ := hs.open (by omega)
    simp only [Value.slice.injEq, true_and] at hv
    obtain ⟨rfl, rfl⟩ := hv
    have hx0 : Y[i]? = some Y[i] := List.getElem?_eq_getElem hlt
    have hld := pt_load hs1 hx0
    have htk : (Y.take (i + 1)).any (isAsk p s) = ((Y.take i).any (isAsk p s) || isAsk p s Y[i]) := by rw [List.take_succ_eq_append_getElem hlt, List.any_append]; simp
    generalize Y[i] = z at hld hx0 htk
    have hcast : ((i : Int) + 1) = ((i + 1 : Nat) : Int) := by omega
    unfold Prt.cells at hld
    simp (disch := omega) only [go_sem, ↓reduceIte , c12e]
    refine awp_draw ord9x14 (by kernel_rfl) ?_
    cases hb : (Y.take i).any (isAsk p s) with
    | true =>
      rw [hb, Bool.true_or] at htk
      simp (disch := omega) only [go_sem, ↓reduceIte , ord9x14, c12e, hld, hcast]
      exact ⟨Y.length - (i + 1), by omega, i + 1, ⟨rfl, by omega, by rw [htk], hx, hk⟩⟩
    | false =>
      rw [hb, Bool.false_or] at htk
      simp (disch := omega) only [go_sem, ↓reduceIte , ord9x14, c12e, hld]
      refine (pfx_c p hp.1 hp.2 _ _).mono fun v H1 nx2 _ ⟨hv, hx2, hk2⟩ => ?_
      subst hv
      simp (disch := omega) only [go_sem, ↓reduceIte , ord9x14, hcast]
      exact ⟨dkeep_kp hk2, Y.length - (i + 1), by omega, i + 1, ⟨rfl, by omega, by rw [htk]; rfl, by omega, hk.trans (U := fun _ => False) hk2 hx (fun _ _ h => h) (fun _ _ h => h)⟩⟩
  · have ei : i = Y.length := by omega
    subst ei
    have hall : (Y.take Y.length).any (isAsk p s) = Y.any (isAsk p s) := by rw [List.take_length]
    simp (disch := omega) only [go_sem, ↓reduceIte , c12e, hall]
    exact hK _ _ hx hk
end Go.Proofs.YtngnbafididkcaaGreat
