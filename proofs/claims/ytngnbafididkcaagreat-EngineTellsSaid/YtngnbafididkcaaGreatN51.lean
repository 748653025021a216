/- EngineTells: in our own logic: what it compares with. -/
import Derived.Test.YtngnbafididkcaaGreatN50
namespace Go.Proofs.YtngnbafididkcaaGreat
open Go.RowKit
set_option linter.unusedSimpArgs false

theorem loadN_same {H H' : AH} {b : Nat} (h : ∀ o, H'.c b o = H.c b o) : ∀ (k o : Nat), loadN H' b o k = loadN H b o k
  | 0, _ => rfl
  | k + 1, o => by rw [loadN_succ, loadN_succ, h, loadN_same h k]
noncomputable def tlT13 : Code := codeAt [.T, .T, .T, .T, .T, .T, .T, .T, .T, .T, .T, .T, .T] ((Tryz.f8.body).getD .skip)
set_option maxHeartbeats 4000000 in
set_option maxRecDepth 20000 in
theorem tells_end2 {lo nx nxx : Nat} {M HH : AH} {Y : List Prt} {p s x : Int} {gone safe : Bool} {a15 at0 own : Nat} {v : Value} {rest : Env}
    (hp : 0 ≤ p ∧ p ≤ 255) (hx : 0 ≤ x ∧ x ≤ 60000) (hs : SlA nx M 7 v Y.length (ptCells Y) own) (c15 : M.c a15 1 = some v) (c150 : M.c a15 0 = some (.int .i64 0)) (l15 : a15 < nx) (hY : Y.length = at0 + 2) (hat : at0 ≤ 3) (hz : ∀ k z, k < 2 → Y[at0 + k]? = some z → z = minePt ∨ z = theirPt p s x gone safe) (hlo : lo ≤ nxx) (hnx : nxx ≤ nx) (hk : Kp (fun _ => False) nxx HH M) :
    awp Tryz.prog lo L8 tlT13 (retQ Tryz.prog Tryz.f8 fun v H' nx' => v = .bool true ∧ nxx ≤ nx' ∧ Kp (fun _ => False) nxx HH H') ((0, .int .u16 x) :: (1, .int .u16 s) :: (2, .int .u8 p) :: (3, .bool safe) :: (4, .bool gone) :: (15, .pointer (some ⟨a15, 0, none⟩)) :: (16, .bool true) :: (17, .int .i64 at0) :: rest) M nx := by
  have hcode : tlT13 = .seq (codeAt [.T, .T, .T, .T, .T, .T, .T, .T, .T, .T, .T, .T, .T, .H] ((Tryz.f8.body).getD .skip)) (.seq (codeAt [.T, .T, .T, .T, .T, .T, .T, .T, .T, .T, .T, .T, .T, .T, .H] ((Tryz.f8.body).getD .skip)) (.seq (codeAt [.T, .T, .T, .T, .T, .T, .T, .T, .T, .T, .T, .T, .T, .T, .T, .H] ((Tryz.f8.body).getD .skip)) (.seq (codeAt [.T, .T, .T, .T, .T, .T, .T, .T, .T, .T, .T, .T, .T, .T, .T, .T, .H] ((Tryz.f8.body).getD .skip)) (.seq (codeAt [.T, .T, .T, .T, .T, .T, .T, .T, .T, .T, .T, .T, .T, .T, .T, .T, .T, .H] ((Tryz.f8.body).getD .skip)) tlT18)))) := rfl
  simp only [Tryz.f8, Option.getD_some, codeAt_H, codeAt_T, codeAt_I, codeAt_L, codeAt_C, codeAt_P, codeAt_nil] at hcode
  rw [hcode]
  clear hcode
  have hne := pfx_own p hp.1 hp.2
  simp (disch := omega) only [go_sem, ↓reduceIte , c150]
  refine own17_c.mono fun v3 H3 nx3 _ ⟨b3, hb3, hv, hn3, hk3, hs3⟩ => ?_
  subst hv; subst hn3
  have hld3 := px_load hs3 (i := 0) rfl
  unfold pxL at hld3
  simp only [Nat.zero_mul, Nat.add_zero] at hld3
  simp (disch := omega) only [go_sem, ↓reduceIte , Int.toNat_zero, Nat.zero_mul, Nat.add_zero, hld3]
  intro b18 hb18
  simp (disch := omega) only [go_sem, ↓reduceIte ]
  have kA : Kp (fun _ => False) (b3 + 1) H3 ((((((((H3.new b18 #[.int .u8 0, .int .u64 0, .int .i64 0, .int .u32 0, .int .u8 0, .int .u16 0, .int .u16 0] 32).put b18 0 (.int .u8 3)).put b18 1 (.int .u64 0)).put b18 (1 + 1) (.int .i64 0)).put b18 (1 + 1 + 1) (.int .u32 201326592)).put b18 (1 + 1 + 1 + 1) (.int .u8 24)).put b18 (1 + 1 + 1 + 1 + 1) (.int .u16 1)).put b18 (1 + 1 + 1 + 1 + 1 + 1) (.int .u16 65535)) := (by repeat first | exact Kp.refl _ _ _ | refine Kp.dropT ?_ (.inl (by omega)) | refine Kp.put ?_ (.inl (by omega)) | refine Kp.new ?_ (by omega) | refine Kp.put ?_ (.inr (by omega)) | refine Kp.newO ?_ (by omega) | refine Kp.setO ?_ (.inl (by omega)) | refine Kp.setO ?_ (.inr (by omega)) | refine Kp.trans0 ?_ (by assumption) (by omega) | refine Kp.transS ?_ (by assumption) (by omega) (fun b hb hT => by first | omega | (dsimp only at hT ⊢; omega) | (simp only at hT ⊢; omega))) 
  have lA : loadN ((((((((H3.new b18 #[.int .u8 0, .int .u64 0, .int .i64 0, .int .u32 0, .int .u8 0, .int .u16 0, .int .u16 0] 32).put b18 0 (.int .u8 3)).put b18 1 (.int .u64 0)).put b18 (1 + 1) (.int .i64 0)).put b18 (1 + 1 + 1) (.int .u32 201326592)).put b18 (1 + 1 + 1 + 1) (.int .u8 24)).put b18 (1 + 1 + 1 + 1 + 1) (.int .u16 1)).put b18 (1 + 1 + 1 + 1 + 1 + 1) (.int .u16 65535)) b18 0 7 = some [.int .u8 3, .int .u64 0, .int .i64 0, .int .u32 201326592, .int .u8 24, .int .u16 1, .int .u16 65535] := by simp (disch := omega) only [go_sem, ↓reduceIte ]
  generalize ((((((((H3.new b18 #[.int .u8 0, .int .u64 0, .int .i64 0, .int .u32 0, .int .u8 0, .int .u16 0, .int .u16 0] 32).put b18 0 (.int .u8 3)).put b18 1 (.int .u64 0)).put b18 (1 + 1) (.int .i64 0)).put b18 (1 + 1 + 1) (.int .u32 201326592)).put b18 (1 + 1 + 1 + 1) (.int .u8 24)).put b18 (1 + 1 + 1 + 1 + 1) (.int .u16 1)).put b18 (1 + 1 + 1 + 1 + 1 + 1) (.int .u16 65535)) = A at kA lA ⊢
  refine (pfx_c p hp.1 hp.2 _ _).mono fun v5 H5 nx5 _ ⟨hv, hx5, hk5⟩ => ?_
  subst hv
  simp (disch := omega) only [go_sem, ↓reduceIte ]
  intro b19 hb19
  have l5 : loadN H5 b18 0 7 = some [.int .u8 3, .int .u64 0, .int .i64 0, .int .u32 201326592, .int .u8 24, .int .u16 1, .int .u16 65535] := by rw [loadN_same (fun o => hk5.cell0 b18 o (by omega))]; exact lA
  simp (disch := omega) only [go_sem, ↓reduceIte ]
  have kB : Kp (fun _ => False) nx5 H5 ((((((((H5.new b19 #[.int .u8 0, .int .u64 0, .int .i64 0, .int .u32 0, .int .u8 0, .int .u16 0, .int .u16 0] 32).put b19 0 (.int .u8 3)).put b19 1 (.int .u64 0)).put b19 (1 + 1) (.int .i64 0)).put b19 (1 + 1 + 1) (.int .u32 (pfxA p))).put b19 (1 + 1 + 1 + 1) (.int .u8 (pfxN p))).put b19 (1 + 1 + 1 + 1 + 1) (.int .u16 s)).put b19 (1 + 1 + 1 + 1 + 1 + 1) (.int .u16 (x + 96))) := (by repeat first | exact Kp.refl _ _ _ | refine Kp.dropT ?_ (.inl (by omega)) | refine Kp.put ?_ (.inl (by omega)) | refine Kp.new ?_ (by omega) | refine Kp.put ?_ (.inr (by omega)) | refine Kp.newO ?_ (by omega) | refine Kp.setO ?_ (.inl (by omega)) | refine Kp.setO ?_ (.inr (by omega)) | refine Kp.trans0 ?_ (by assumption) (by omega) | refine Kp.transS ?_ (by assumption) (by omega) (fun b hb hT => by first | omega | (dsimp only at hT ⊢; omega) | (simp only at hT ⊢; omega))) 
  have lB : loadN ((((((((H5.new b19 #[.int .u8 0, .int .u64 0, .int .i64 0, .int .u32 0, .int .u8 0, .int .u16 0, .int .u16 0] 32).put b19 0 (.int .u8 3)).put b19 1 (.int .u64 0)).put b19 (1 + 1) (.int .i64 0)).put b19 (1 + 1 + 1) (.int .u32 (pfxA p))).put b19 (1 + 1 + 1 + 1) (.int .u8 (pfxN p))).put b19 (1 + 1 + 1 + 1 + 1) (.int .u16 s)).put b19 (1 + 1 + 1 + 1 + 1 + 1) (.int .u16 (x + 96))) b19 0 7 = some [.int .u8 3, .int .u64 0, .int .i64 0, .int .u32 (pfxA p), .int .u8 (pfxN p), .int .u16 s, .int .u16 (x + 96)] := by simp (disch := omega) only [go_sem, ↓reduceIte ]
  have lB8 : loadN ((((((((H5.new b19 #[.int .u8 0, .int .u64 0, .int .i64 0, .int .u32 0, .int .u8 0, .int .u16 0, .int .u16 0] 32).put b19 0 (.int .u8 3)).put b19 1 (.int .u64 0)).put b19 (1 + 1) (.int .i64 0)).put b19 (1 + 1 + 1) (.int .u32 (pfxA p))).put b19 (1 + 1 + 1 + 1) (.int .u8 (pfxN p))).put b19 (1 + 1 + 1 + 1 + 1) (.int .u16 s)).put b19 (1 + 1 + 1 + 1 + 1 + 1) (.int .u16 (x + 96))) b18 0 7 = some [.int .u8 3, .int .u64 0, .int .i64 0, .int .u32 201326592, .int .u8 24, .int .u16 1, .int .u16 65535] := by rw [loadN_same (fun o => kB.cell0 b18 o (by omega))]; exact l5
  have s6 : (((((((((H5.new b19 #[.int .u8 0, .int .u64 0, .int .i64 0, .int .u32 0, .int .u8 0, .int .u16 0, .int .u16 0] 32).put b19 0 (.int .u8 3)).put b19 1 (.int .u64 0)).put b19 (1 + 1) (.int .i64 0)).put b19 (1 + 1 + 1) (.int .u32 (pfxA p))).put b19 (1 + 1 + 1 + 1) (.int .u8 (pfxN p))).put b19 (1 + 1 + 1 + 1 + 1) (.int .u16 s)).put b19 (1 + 1 + 1 + 1 + 1 + 1) (.int .u16 (x + 96))).c b19 (1 + 1 + 1 + 1 + 1 + 1)).isSome = true := by simp (disch := omega) only [go_sem, ↓reduceIte ]
  have s5 : (((((((((H5.new b19 #[.int .u8 0, .int .u64 0, .int .i64 0, .int .u32 0, .int .u8 0, .int .u16 0, .int .u16 0] 32).put b19 0 (.int .u8 3)).put b19 1 (.int .u64 0)).put b19 (1 + 1) (.int .i64 0)).put b19 (1 + 1 + 1) (.int .u32 (pfxA p))).put b19 (1 + 1 + 1 + 1) (.int .u8 (pfxN p))).put b19 (1 + 1 + 1 + 1 + 1) (.int .u16 s)).put b19 (1 + 1 + 1 + 1 + 1 + 1) (.int .u16 (x + 96))).c b19 (1 + 1 + 1 + 1 + 1)).isSome = true := by simp (disch := omega) only [go_sem, ↓reduceIte ]
  have s4 : (((((((((H5.new b19 #[.int .u8 0, .int .u64 0, .int .i64 0, .int .u32 0, .int .u8 0, .int .u16 0, .int .u16 0] 32).put b19 0 (.int .u8 3)).put b19 1 (.int .u64 0)).put b19 (1 + 1) (.int .i64 0)).put b19 (1 + 1 + 1) (.int .u32 (pfxA p))).put b19 (1 + 1 + 1 + 1) (.int .u8 (pfxN p))).put b19 (1 + 1 + 1 + 1 + 1) (.int .u16 s)).put b19 (1 + 1 + 1 + 1 + 1 + 1) (.int .u16 (x + 96))).c b19 (1 + 1 + 1 + 1)).isSome = true := by simp (disch := omega) only [go_sem, ↓reduceIte ]
  have s3 : (((((((((H5.new b19 #[.int .u8 0, .int .u64 0, .int .i64 0, .int .u32 0, .int .u8 0, .int .u16 0, .int .u16 0] 32).put b19 0 (.int .u8 3)).put b19 1 (.int .u64 0)).put b19 (1 + 1) (.int .i64 0)).put b19 (1 + 1 + 1) (.int .u32 (pfxA p))).put b19 (1 + 1 + 1 + 1) (.int .u8 (pfxN p))).put b19 (1 + 1 + 1 + 1 + 1) (.int .u16 s)).put b19 (1 + 1 + 1 + 1 + 1 + 1) (.int .u16 (x + 96))).c b19 (1 + 1 + 1)).isSome = true := by simp (disch := omega) only [go_sem, ↓reduceIte ]
  have s2 : (((((((((H5.new b19 #[.int .u8 0, .int .u64 0, .int .i64 0, .int .u32 0, .int .u8 0, .int .u16 0, .int .u16 0] 32).put b19 0 (.int .u8 3)).put b19 1 (.int .u64 0)).put b19 (1 + 1) (.int .i64 0)).put b19 (1 + 1 + 1) (.int .u32 (pfxA p))).put b19 (1 + 1 + 1 + 1) (.int .u8 (pfxN p))).put b19 (1 + 1 + 1 + 1 + 1) (.int .u16 s)).put b19 (1 + 1 + 1 + 1 + 1 + 1) (.int .u16 (x + 96))).c b19 (1 + 1)).isSome = true := by simp (disch := omega) only [go_sem, ↓reduceIte ]
  have s1 : (((((((((H5.new b19 #[.int .u8 0, .int .u64 0, .int .i64 0, .int .u32 0, .int .u8 0, .int .u16 0, .int .u16 0] 32).put b19 0 (.int .u8 3)).put b19 1 (.int .u64 0)).put b19 (1 + 1) (.int .i64 0)).put b19 (1 + 1 + 1) (.int .u32 (pfxA p))).put b19 (1 + 1 + 1 + 1) (.int .u8 (pfxN p))).put b19 (1 + 1 + 1 + 1 + 1) (.int .u16 s)).put b19 (1 + 1 + 1 + 1 + 1 + 1) (.int .u16 (x + 96))).c b19 1).isSome = true := by simp (disch := omega) only [go_sem, ↓reduceIte ]
  have s0 : (((((((((H5.new b19 #[.int .u8 0, .int .u64 0, .int .i64 0, .int .u32 0, .int .u8 0, .int .u16 0, .int .u16 0] 32).put b19 0 (.int .u8 3)).put b19 1 (.int .u64 0)).put b19 (1 + 1) (.int .i64 0)).put b19 (1 + 1 + 1) (.int .u32 (pfxA p))).put b19 (1 + 1 + 1 + 1) (.int .u8 (pfxN p))).put b19 (1 + 1 + 1 + 1 + 1) (.int .u16 s)).put b19 (1 + 1 + 1 + 1 + 1 + 1) (.int .u16 (x + 96))).c b19 0).isSome = true := by simp (disch := omega) only [go_sem, ↓reduceIte ]
  have q0 : ((((((((H5.new b19 #[.int .u8 0, .int .u64 0, .int .i64 0, .int .u32 0, .int .u8 0, .int .u16 0, .int .u16 0] 32).put b19 0 (.int .u8 3)).put b19 1 (.int .u64 0)).put b19 (1 + 1) (.int .i64 0)).put b19 (1 + 1 + 1) (.int .u32 (pfxA p))).put b19 (1 + 1 + 1 + 1) (.int .u8 (pfxN p))).put b19 (1 + 1 + 1 + 1 + 1) (.int .u16 s)).put b19 (1 + 1 + 1 + 1 + 1 + 1) (.int .u16 (x + 96))).c b19 0 = some (.int .u8 3) := by simp (disch := omega) only [go_sem, ↓reduceIte ]
  have q1 : ((((((((H5.new b19 #[.int .u8 0, .int .u64 0, .int .i64 0, .int .u32 0, .int .u8 0, .int .u16 0, .int .u16 0] 32).put b19 0 (.int .u8 3)).put b19 1 (.int .u64 0)).put b19 (1 + 1) (.int .i64 0)).put b19 (1 + 1 + 1) (.int .u32 (pfxA p))).put b19 (1 + 1 + 1 + 1) (.int .u8 (pfxN p))).put b19 (1 + 1 + 1 + 1 + 1) (.int .u16 s)).put b19 (1 + 1 + 1 + 1 + 1 + 1) (.int .u16 (x + 96))).c b19 1 = some (.int .u64 0) := by simp (disch := omega) only [go_sem, ↓reduceIte ]
  have q2 : ((((((((H5.new b19 #[.int .u8 0, .int .u64 0, .int .i64 0, .int .u32 0, .int .u8 0, .int .u16 0, .int .u16 0] 32).put b19 0 (.int .u8 3)).put b19 1 (.int .u64 0)).put b19 (1 + 1) (.int .i64 0)).put b19 (1 + 1 + 1) (.int .u32 (pfxA p))).put b19 (1 + 1 + 1 + 1) (.int .u8 (pfxN p))).put b19 (1 + 1 + 1 + 1 + 1) (.int .u16 s)).put b19 (1 + 1 + 1 + 1 + 1 + 1) (.int .u16 (x + 96))).c b19 (1 + 1) = some (.int .i64 0) := by simp (disch := omega) only [go_sem, ↓reduceIte ]
  have q3 : ((((((((H5.new b19 #[.int .u8 0, .int .u64 0, .int .i64 0, .int .u32 0, .int .u8 0, .int .u16 0, .int .u16 0] 32).put b19 0 (.int .u8 3)).put b19 1 (.int .u64 0)).put b19 (1 + 1) (.int .i64 0)).put b19 (1 + 1 + 1) (.int .u32 (pfxA p))).put b19 (1 + 1 + 1 + 1) (.int .u8 (pfxN p))).put b19 (1 + 1 + 1 + 1 + 1) (.int .u16 s)).put b19 (1 + 1 + 1 + 1 + 1 + 1) (.int .u16 (x + 96))).c b19 (1 + 1 + 1) = some (.int .u32 (pfxA p)) := by simp (disch := omega) only [go_sem, ↓reduceIte ]
  have q4 : ((((((((H5.new b19 #[.int .u8 0, .int .u64 0, .int .i64 0, .int .u32 0, .int .u8 0, .int .u16 0, .int .u16 0] 32).put b19 0 (.int .u8 3)).put b19 1 (.int .u64 0)).put b19 (1 + 1) (.int .i64 0)).put b19 (1 + 1 + 1) (.int .u32 (pfxA p))).put b19 (1 + 1 + 1 + 1) (.int .u8 (pfxN p))).put b19 (1 + 1 + 1 + 1 + 1) (.int .u16 s)).put b19 (1 + 1 + 1 + 1 + 1 + 1) (.int .u16 (x + 96))).c b19 (1 + 1 + 1 + 1) = some (.int .u8 (pfxN p)) := by simp (disch := omega) only [go_sem, ↓reduceIte ]
  have q5 : ((((((((H5.new b19 #[.int .u8 0, .int .u64 0, .int .i64 0, .int .u32 0, .int .u8 0, .int .u16 0, .int .u16 0] 32).put b19 0 (.int .u8 3)).put b19 1 (.int .u64 0)).put b19 (1 + 1) (.int .i64 0)).put b19 (1 + 1 + 1) (.int .u32 (pfxA p))).put b19 (1 + 1 + 1 + 1) (.int .u8 (pfxN p))).put b19 (1 + 1 + 1 + 1 + 1) (.int .u16 s)).put b19 (1 + 1 + 1 + 1 + 1 + 1) (.int .u16 (x + 96))).c b19 (1 + 1 + 1 + 1 + 1) = some (.int .u16 s) := by simp (disch := omega) only [go_sem, ↓reduceIte ]
  have hb18' : nx ≤ b18 := by omega
  have kM : Kp (fun _ => False) nx M ((((((((H5.new b19 #[.int .u8 0, .int .u64 0, .int .i64 0, .int .u32 0, .int .u8 0, .int .u16 0, .int .u16 0] 32).put b19 0 (.int .u8 3)).put b19 1 (.int .u64 0)).put b19 (1 + 1) (.int .i64 0)).put b19 (1 + 1 + 1) (.int .u32 (pfxA p))).put b19 (1 + 1 + 1 + 1) (.int .u8 (pfxN p))).put b19 (1 + 1 + 1 + 1 + 1) (.int .u16 s)).put b19 (1 + 1 + 1 + 1 + 1 + 1) (.int .u16 (x + 96))) := ((hk3.trans (U := fun _ => False) kA (by omega) (fun _ _ h => h) (fun _ _ h => h)).trans (U := fun _ => False) hk5 (by omega) (fun _ _ h => h) (fun _ _ h => h)).trans (U := fun _ => False) kB (by omega) (fun _ _ h => h) (fun _ _ h => h)
  clear kB
  generalize ((((((((H5.new b19 #[.int .u8 0, .int .u64 0, .int .i64 0, .int .u32 0, .int .u8 0, .int .u16 0, .int .u16 0] 32).put b19 0 (.int .u8 3)).put b19 1 (.int .u64 0)).put b19 (1 + 1) (.int .i64 0)).put b19 (1 + 1 + 1) (.int .u32 (pfxA p))).put b19 (1 + 1 + 1 + 1) (.int .u8 (pfxN p))).put b19 (1 + 1 + 1 + 1 + 1) (.int .u16 s)).put b19 (1 + 1 + 1 + 1 + 1 + 1) (.int .u16 (x + 96))) = B at kM lB lB8 s0 s1 s2 s3 s4 s5 s6 q0 q1 q2 q3 q4 q5 ⊢
  have fin : ∀ (M' : AH) (nx' : Nat) (sq mt : Int) (pre rest : Env), (pre = [] ∨ ∃ w, pre = [(2, w)]) → nx ≤ nx' → Kp (fun _ => False) nx M M' → loadN M' b18 0 7 = some [.int .u8 3, .int .u64 0, .int .i64 0, .int .u32 201326592, .int .u8 24, .int .u16 1, .int .u16 65535] → loadN M' b19 0 7 = some [.int .u8 3, .int .u64 0, .int .i64 0, .int .u32 (pfxA p), .int .u8 (pfxN p), .int .u16 sq, .int .u16 mt] → theirPt p s x gone safe = ⟨3, 0, 0, pfxA p, pfxN p, sq, mt⟩ →
      awp Tryz.prog lo L8 tlT18 (retQ Tryz.prog Tryz.f8 fun v H' nx' => v = .bool true ∧ nxx ≤ nx' ∧ Kp (fun _ => False) nxx HH H') (pre ++ (15, .pointer (some ⟨a15, 0, none⟩)) :: (17, .int .i64 at0) :: (18, .pointer (some ⟨b18, 0, none⟩)) :: (19, .pointer (some ⟨b19, 0, none⟩)) :: rest) M' nx' := fun M' nx' sq mt pre rest hpre hn hk' h18 h19 hth =>
    tells_count pre rest hpre (hs.kp hk' hn (by simp)) (by rw [hk'.cell0 a15 1 l15]; exact c15) hY hat (fun k z hk0 h0 => by rw [← hth]; exact hz k z hk0 h0) hne h18 h19 (by omega) (hk.trans (U := fun _ => False) hk' hnx (fun _ _ h => h) (fun _ _ h => h))
  have hb19' : nx ≤ b19 := by omega
  have hlb : lo ≤ b19 := by omega
  have hbb : b18 ≠ b19 := by omega
  have hbb' : b19 ≠ b18 := by omega
  clear hk5 hk3 kA lA l5
  cases gone with
  | false =>
    cases safe with
    | true =>
      simp (disch := omega) only [go_sem, ↓reduceIte ]
      exact fin _ _ s (x + 96) [(2, .int .u8 p)] _ (.inr ⟨_, rfl⟩) (by omega) kM lB8 lB rfl
    | false =>
      simp (disch := omega) only [go_sem, ↓reduceIte , s6]
      have kC : Kp (fun b => b = b19) (b19 + 1) B (B.put b19 (1 + 1 + 1 + 1 + 1 + 1) (.int .u16 65535)) := (by repeat first | exact Kp.refl _ _ _ | refine Kp.dropT ?_ (.inl (by omega)) | refine Kp.put ?_ (.inl (by omega)) | refine Kp.new ?_ (by omega) | refine Kp.put ?_ (.inr (by omega)) | refine Kp.newO ?_ (by omega) | refine Kp.setO ?_ (.inl (by omega)) | refine Kp.setO ?_ (.inr (by omega)) | refine Kp.trans0 ?_ (by assumption) (by omega) | refine Kp.transS ?_ (by assumption) (by omega) (fun b hb hT => by first | omega | (dsimp only at hT ⊢; omega) | (simp only at hT ⊢; omega))) 
      refine fin _ _ s 65535 [(2, .int .u8 p)] _ (.inr ⟨_, rfl⟩) (by omega) (kM.trans (U := fun _ => False) (kC.mono (Nat.le_refl _) (fun _ _ h => h)) (by omega) (fun _ _ h => h) (fun b hb h => by omega)) ?_ ?_ rfl
      · rw [loadN_same (fun o => kC.cell b18 o (by omega) hbb)]
        exact lB8
      · simp (disch := omega) only [go_sem, ↓reduceIte , q0, q1, q2, q3, q4, q5]
  | true =>
    have gn : ∀ (D : AH) (nd : Nat) (rest : Env), b19 + 1 ≤ nd → Kp (fun b => b = b19) (b19 + 1) B D → awp Tryz.prog lo L8 tlT18 (retQ Tryz.prog Tryz.f8 fun v H' nx' => v = .bool true ∧ nxx ≤ nx' ∧ Kp (fun _ => False) nxx HH H') ((15, .pointer (some ⟨a15, 0, none⟩)) :: (17, .int .i64 at0) :: (18, .pointer (some ⟨b18, 0, none⟩)) :: (19, .pointer (some ⟨b19, 0, none⟩)) :: rest) (((((((D.put b19 0 (.int .u8 3)).put b19 1 (.int .u64 0)).put b19 (1 + 1) (.int .i64 0)).put b19 (1 + 1 + 1) (.int .u32 (pfxA p))).put b19 (1 + 1 + 1 + 1) (.int .u8 (pfxN p))).put b19 (1 + 1 + 1 + 1 + 1) (.int .u16 0)).put b19 (1 + 1 + 1 + 1 + 1 + 1) (.int .u16 65535)) nd := fun D nd rest hnd hD => by
      have kC : Kp (fun b => b = b19) nd D (((((((D.put b19 0 (.int .u8 3)).put b19 1 (.int .u64 0)).put b19 (1 + 1) (.int .i64 0)).put b19 (1 + 1 + 1) (.int .u32 (pfxA p))).put b19 (1 + 1 + 1 + 1) (.int .u8 (pfxN p))).put b19 (1 + 1 + 1 + 1 + 1) (.int .u16 0)).put b19 (1 + 1 + 1 + 1 + 1 + 1) (.int .u16 65535)) := (by repeat first | exact Kp.refl _ _ _ | refine Kp.dropT ?_ (.inl (by omega)) | refine Kp.put ?_ (.inl (by omega)) | refine Kp.new ?_ (by omega) | refine Kp.put ?_ (.inr (by omega)) | refine Kp.newO ?_ (by omega) | refine Kp.setO ?_ (.inl (by omega)) | refine Kp.setO ?_ (.inr (by omega)) | refine Kp.trans0 ?_ (by assumption) (by omega) | refine Kp.transS ?_ (by assumption) (by omega) (fun b hb hT => by first | omega | (dsimp only at hT ⊢; omega) | (simp only at hT ⊢; omega))) 
      refine fin _ _ 0 65535 [] rest (.inl rfl) (by omega) ((kM.trans (U := fun b => b = b19 ∧ nx ≤ b) (nx' := b19 + 1) (hD.mono (Nat.le_refl _) (fun b _ h => ⟨h, by omega⟩)) (by omega) (fun _ _ h => h.elim) (fun _ _ h => h)).trans (U := fun b => b = b19 ∧ nx ≤ b) (nx' := nd) (kC.mono (Nat.le_refl _) (fun b _ h => ⟨h, by omega⟩)) (by omega) (fun _ _ h => h) (fun _ _ h => h) |>.mono (Nat.le_refl _) (fun b hb h => by omega)) ?_ ?_ rfl
      · rw [loadN_same (fun o => (kC.cell b18 o (by omega) hbb).trans (hD.cell b18 o (by omega) hbb))]
        exact lB8
      · simp (disch := omega) only [go_sem, ↓reduceIte ]
    cases safe with
    | true =>
      simp (disch := omega) only [go_sem, ↓reduceIte ]
      refine (pfx_c p hp.1 hp.2 _ _).mono fun v7 D nd _ ⟨hv, hnd, hkD⟩ => ?_
      subst hv
      have t0 : (D.c b19 0).isSome = true := by rw [hkD.cell0 b19 _ (by omega)]; exact s0
      have t1 : (D.c b19 1).isSome = true := by rw [hkD.cell0 b19 _ (by omega)]; exact s1
      have t2 : (D.c b19 (1 + 1)).isSome = true := by rw [hkD.cell0 b19 _ (by omega)]; exact s2
      have t3 : (D.c b19 (1 + 1 + 1)).isSome = true := by rw [hkD.cell0 b19 _ (by omega)]; exact s3
      have t4 : (D.c b19 (1 + 1 + 1 + 1)).isSome = true := by rw [hkD.cell0 b19 _ (by omega)]; exact s4
      have t5 : (D.c b19 (1 + 1 + 1 + 1 + 1)).isSome = true := by rw [hkD.cell0 b19 _ (by omega)]; exact s5
      have t6 : (D.c b19 (1 + 1 + 1 + 1 + 1 + 1)).isSome = true := by rw [hkD.cell0 b19 _ (by omega)]; exact s6
      simp (disch := omega) only [go_sem, ↓reduceIte , t0, t1, t2, t3, t4, t5, t6]
      exact gn D nd _ hnd (hkD.mono (Nat.le_refl _) (fun _ _ h => h.elim))
    | false =>
      simp (disch := omega) only [go_sem, ↓reduceIte , s6]
      refine (pfx_c p hp.1 hp.2 _ _).mono fun v7 D nd _ ⟨hv, hnd, hkD⟩ => ?_
      subst hv
      have t0 : (D.c b19 0).isSome = true := by rw [hkD.cell0 b19 _ (by omega)]; simp (disch := omega) only [go_sem, ↓reduceIte , s0]
      have t1 : (D.c b19 1).isSome = true := by rw [hkD.cell0 b19 _ (by omega)]; simp (disch := omega) only [go_sem, ↓reduceIte , s1]
      have t2 : (D.c b19 (1 + 1)).isSome = true := by rw [hkD.cell0 b19 _ (by omega)]; simp (disch := omega) only [go_sem, ↓reduceIte , s2]
      have t3 : (D.c b19 (1 + 1 + 1)).isSome = true := by rw [hkD.cell0 b19 _ (by omega)]; simp (disch := omega) only [go_sem, ↓reduceIte , s3]
      have t4 : (D.c b19 (1 + 1 + 1 + 1)).isSome = true := by rw [hkD.cell0 b19 _ (by omega)]; simp (disch := omega) only [go_sem, ↓reduceIte , s4]
      have t5 : (D.c b19 (1 + 1 + 1 + 1 + 1)).isSome = true := by rw [hkD.cell0 b19 _ (by omega)]; simp (disch := omega) only [go_sem, ↓reduceIte , s5]
      have t6 : (D.c b19 (1 + 1 + 1 + 1 + 1 + 1)).isSome = true := by rw [hkD.cell0 b19 _ (by omega)]; simp (disch := omega) only [go_sem, ↓reduceIte , s6]
      simp (disch := omega) only [go_sem, ↓reduceIte , t0, t1, t2, t3, t4, t5, t6]
      have kP : Kp (fun b => b = b19) (b19 + 1) B (B.put b19 (1 + 1 + 1 + 1 + 1 + 1) (.int .u16 65535)) := (by repeat first | exact Kp.refl _ _ _ | refine Kp.dropT ?_ (.inl (by omega)) | refine Kp.put ?_ (.inl (by omega)) | refine Kp.new ?_ (by omega) | refine Kp.put ?_ (.inr (by omega)) | refine Kp.newO ?_ (by omega) | refine Kp.setO ?_ (.inl (by omega)) | refine Kp.setO ?_ (.inr (by omega)) | refine Kp.trans0 ?_ (by assumption) (by omega) | refine Kp.transS ?_ (by assumption) (by omega) (fun b hb hT => by first | omega | (dsimp only at hT ⊢; omega) | (simp only at hT ⊢; omega))) 
      exact gn D nd _ hnd (kP.trans (U := fun b => b = b19) hkD (by omega) (fun _ _ h => h) (fun _ _ h => h.elim))
end Go.Proofs.YtngnbafididkcaaGreat
