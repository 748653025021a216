/- EngineBegins: in our own logic: one prefix; all of them. EngineBegins: in our own logic: a nil one, and the answer. EngineBegins: in our own logic: whole. -/
import Derived.Test.YtngnbafididkcaaGreatA9
section
namespace Go.Proofs.YtngnbafididkcaaGreat
open Go.RowKit
set_option linter.unusedSimpArgs false
noncomputable def bgR : Code := codeAt [.T, .T, .T, .T, .T, .T, .T, .T, .T, .H, .T, .I, .I, .T, .H, .I] ((Tryz.f12.body).getD .skip)
noncomputable def bgL2 : Code := codeAt [.T, .T, .T, .T, .T, .T, .T, .T, .T, .H, .T, .I] ((Tryz.f12.body).getD .skip)
set_option maxHeartbeats 4000000 in
set_option maxRecDepth 20000 in
theorem beg_round {lo nx : Nat} {H : AH} {ms : List (Int × Int)} {p : Int × Int} {v5 v9 v13 : Value} {id : Int} {b7 pt own5 ownr i n : Nat} {rs : List RowRec} {e : Eng} {y : ELay} {col : Nat → Nat} {rest : Env} {K : Env → AH → Nat → Prop} {Q : Exit → Env → AH → Nat → Prop} (hlo : lo ≤ nx) (hs : SlA nx H 2 v5 ms.length (pxC ms) own5) (hml : ms.length ≤ 24) (hmi : pxIn p) (hp : ms[i]? = some p) (hr : SlA nx H 10 v9 rs.length (rrCells rs) ownr) (hrl : rs.length ≤ 60) (hsrt : rs.Pairwise ltW) (hA : EngA lo nx H pt e y col) (hsl : e.sel.length ≤ 1000000) (hid : 0 ≤ id ∧ id ≤ 255) (hn : n ≤ 24) (hrt : pxRightC p.1 p.2 = true → routeE e p.1 p.2 = some ⟨p.1, p.2, id % 16, 0, seqR rs p⟩)
    (hK : ∀ n' H' nx' rest', n' = n + (if p ∈ ms.take i ∨ pxRightC p.1 p.2 = false then 0 else 1) → nx ≤ nx' → Kp (fun _ => False) nx H H' → K ((2, .int .u8 id) :: (7, .pointer (some ⟨b7, 0, none⟩)) :: (9, v9) :: (10, v5) :: (12, .pointer (some ⟨pt, 0, none⟩)) :: (13, v13) :: (14, .int .i64 (n' : Nat)) :: (15, .int .i64 (i : Nat)) :: rest') H' nx') :
    awp Tryz.prog lo L12 bgR (blockQ 3 (thenQ K Q)) ((2, .int .u8 id) :: (7, .pointer (some ⟨b7, 0, none⟩)) :: (9, v9) :: (10, v5) :: (12, .pointer (some ⟨pt, 0, none⟩)) :: (13, v13) :: (14, .int .i64 (n : Nat)) :: (15, .int .i64 (i : Nat)) :: rest) H nx := by
  have hcode : bgR = .seq (codeAt [.T, .T, .T, .T, .T, .T, .T, .T, .T, .H, .T, .I, .I, .T, .H, .I, .H] ((Tryz.f12.body).getD .skip)) (.seq (.seq (codeAt [.T, .T, .T, .T, .T, .T, .T, .T, .T, .H, .T, .I, .I, .T, .H, .I, .T, .H, .H] ((Tryz.f12.body).getD .skip)) (.block 4 bgA)) (.seq (.seq (codeAt [.T, .T, .T, .T, .T, .T, .T, .T, .T, .H, .T, .I, .I, .T, .H, .I, .T, .T, .H, .H] ((Tryz.f12.body).getD .skip)) (codeAt [.T, .T, .T, .T, .T, .T, .T, .T, .T, .H, .T, .I, .I, .T, .H, .I, .T, .T, .H, .T] ((Tryz.f12.body).getD .skip))) (.seq (codeAt [.T, .T, .T, .T, .T, .T, .T, .T, .T, .H, .T, .I, .I, .T, .H, .I, .T, .T, .T, .H] ((Tryz.f12.body).getD .skip)) (.seq (codeAt [.T, .T, .T, .T, .T, .T, .T, .T, .T, .H, .T, .I, .I, .T, .H, .I, .T, .T, .T, .T, .H] ((Tryz.f12.body).getD .skip)) (.seq (.seq (codeAt [.T, .T, .T, .T, .T, .T, .T, .T, .T, .H, .T, .I, .I, .T, .H, .I, .T, .T, .T, .T, .T, .H, .H] ((Tryz.f12.body).getD .skip)) (.block 6 bgS)) (codeAt [.T, .T, .T, .T, .T, .T, .T, .T, .T, .H, .T, .I, .I, .T, .H, .I, .T, .T, .T, .T, .T, .T] ((Tryz.f12.body).getD .skip))))))) := rfl
  simp only [Tryz.f12, Option.getD_some, codeAt_H, codeAt_T, codeAt_I, codeAt_L, codeAt_C, codeAt_P, codeAt_nil] at hcode
  rw [hcode]
  clear hcode
  have hi : i < ms.length := (List.getElem?_eq_some_iff.1 hp).1
  have hold := hp
  obtain ⟨g, off, cap, hv, hgo⟩ := hs.open (by omega)
  subst hv
  have hone9 := hr.one
  simp (disch := omega) only [go_sem, ↓reduceIte ]
  refine beg_again hs hml hp ?_
  have hld := px_load hs hp
  unfold pxL at hld
  by_cases ha : p ∈ ms.take i
  · have hd : decide (p ∈ ms.take i) = true := decide_eq_true ha
    simp (disch := omega) only [go_sem, ↓reduceIte , hd]
    exact hK _ _ _ _ (by rw [if_pos (.inl ha)]; rfl) (Nat.le_refl _) (Kp.refl _ _ _)
  · have hd : decide (p ∈ ms.take i) = false := decide_eq_false ha
    simp (disch := omega) only [go_sem, ↓reduceIte , hd, hld]
    refine (right01p_c p.1 p.2 hmi.1.1 hmi.1.2 hmi.2.1 _ _).mono fun v H1 nx1 _ ⟨hv, hx1, hk1⟩ => ?_
    subst hv
    cases hpx : pxRightC p.1 p.2 with
    | false =>
      simp (disch := omega) only [go_sem, ↓reduceIte ]
      exact hK _ _ _ _ (by rw [if_pos (.inr hpx)]; rfl) hx1 hk1
    | true =>
      have hrt := hrt hpx
      have hcast : ((n : Int) + 1) = ((n + 1 : Nat) : Int) := by omega
      have hs1 := hs.kp hk1 hx1 (by simp)
      simp (disch := omega) only [go_sem, ↓reduceIte , hcast]
      refine beg_seq hs1 hml hp (hr.kp hk1 hx1 (by simp)) hrl hsrt ?_
      have hld1 := px_load hs1 hp
      unfold pxL at hld1
      simp (disch := omega) only [go_sem, ↓reduceIte , hld1]
      refine (eroute_c (hA.kp' (nx' := nx1) hk1 hx1 (by simp)) hsl p.1 p.2).mono fun v H2 nx2 _ ⟨hx2, hk2, hv⟩ => ?_
      subst hv
      rw [hrt]
      simp only [Option.getD_some, Option.isSome_some, Rt.cells]
      simp (disch := omega) only [go_sem, ↓reduceIte ]
      intro b20 hb20
      generalize hsq : seqR rs p = sq
      simp (disch := omega) only [go_sem, ↓reduceIte ]
      refine hK _ _ _ _ (by rw [if_neg (by rw [hpx]; simp [ha])]) ?_ ?_
      · omega
      · have k2 := hk1.trans (U := fun _ => False) hk2 (by omega) (fun _ _ h => h) (fun _ _ h => h)
        exact (by repeat first | exact Kp.refl _ _ _ | refine Kp.dropT ?_ (.inl (by omega)) | refine Kp.put ?_ (.inl (by omega)) | refine Kp.new ?_ (by omega) | refine Kp.put ?_ (.inr (by omega)) | refine Kp.newO ?_ (by omega) | refine Kp.setO ?_ (.inl (by omega)) | refine Kp.setO ?_ (.inr (by omega)) | refine Kp.trans0 ?_ (by assumption) (by omega) | refine Kp.transS ?_ (by assumption) (by omega) (fun b hb hT => by first | omega | (dsimp only at hT ⊢; omega) | (simp only at hT ⊢; omega))) 
structure B2I (nx0 : Nat) (H0 : AH) (ms : List (Int × Int)) (es : List Ent) (v5 v9 v13 : Value) (id : Int) (b7 pt : Nat) (m : Nat) (env : Env) (H : AH) (nx i : Nat) : Prop where
  hm : m = ms.length - i
  hi : i ≤ ms.length
  henv : ∃ rest, env = (2, .int .u8 id) :: (7, .pointer (some ⟨b7, 0, none⟩)) :: (9, v9) :: (10, v5) :: (12, .pointer (some ⟨pt, 0, none⟩)) :: (13, v13) :: (14, .int .i64 ((ownF es (ms.take i)).length : Nat)) :: (15, .int .i64 (i : Nat)) :: rest
  hx : nx0 ≤ nx
  hk : Kp (fun _ => False) nx0 H0 H
set_option maxHeartbeats 4000000 in
set_option maxRecDepth 20000 in
theorem beg_l2 {lo nx0 : Nat} {H0 : AH} {ms : List (Int × Int)} {es : List Ent} {v5 v9 v13 : Value} {id : Int} {b7 pt own5 ownr : Nat} {rs : List RowRec} {e : Eng} {y : ELay} {col : Nat → Nat} {K0 : Env → AH → Nat → Prop} {Q : Exit → Env → AH → Nat → Prop} (hlo : lo ≤ nx0) (hs : SlA nx0 H0 2 v5 ms.length (pxC ms) own5) (hml : ms.length ≤ 24) (hmi : ∀ p ∈ ms, pxIn p) (hr : SlA nx0 H0 10 v9 rs.length (rrCells rs) ownr) (hrl : rs.length ≤ 60) (hsrt : rs.Pairwise ltW) (hA : EngA lo nx0 H0 pt e y col) (hsl : e.sel.length ≤ 1000000) (hid : 0 ≤ id ∧ id ≤ 255) (hrt : ∀ p ∈ ms, pxRightC p.1 p.2 = true → routeE e p.1 p.2 = some ⟨p.1, p.2, id % 16, 0, seqR rs p⟩)
    (hK : ∀ H nx n i rest, n = (ownF es ms).length → nx0 ≤ nx → Kp (fun _ => False) nx0 H0 H → K0 ((2, .int .u8 id) :: (7, .pointer (some ⟨b7, 0, none⟩)) :: (9, v9) :: (10, v5) :: (12, .pointer (some ⟨pt, 0, none⟩)) :: (13, v13) :: (14, .int .i64 (n : Nat)) :: (15, .int .i64 (i : Nat)) :: rest) H nx) :
    awp Tryz.prog lo L12 bgL2 (blockQ 2 (thenQ K0 Q)) [(2, .int .u8 id), (7, .pointer (some ⟨b7, 0, none⟩)), (9, v9), (10, v5), (12, .pointer (some ⟨pt, 0, none⟩)), (13, v13), (14, .int .i64 0), (15, .int .i64 0)] H0 nx0 := by
  have hcode : bgL2 = .loop (.seq (codeAt [.T, .T, .T, .T, .T, .T, .T, .T, .T, .H, .T, .I, .I, .H] ((Tryz.f12.body).getD .skip)) (.seq (.block 3 bgR) (codeAt [.T, .T, .T, .T, .T, .T, .T, .T, .T, .H, .T, .I, .I, .T, .T] ((Tryz.f12.body).getD .skip)))) := rfl
  simp only [Tryz.f12, Option.getD_some, codeAt_H, codeAt_T, codeAt_I, codeAt_L, codeAt_C, codeAt_P, codeAt_nil] at hcode
  rw [hcode]
  clear hcode
  refine awp_loop (fun m env H nx => ∃ i, B2I nx0 H0 ms es v5 v9 v13 id b7 pt m env H nx i) ms.length ⟨0, ⟨by omega, by omega, ⟨[], rfl⟩, Nat.le_refl _, Kp.refl _ _ _⟩⟩ (fun m env H nx ⟨i, hI⟩ hnx => ?_)
  obtain ⟨hm, hi, ⟨rest, henv⟩, hx, hk⟩ := hI
  subst henv
  have hs1 := hs.kp hk hx (by simp)
  have hone5 := hs.one
  have hone9 := hr.one
  obtain ⟨a5, c5, rfl⟩ := hs.form
  by_cases hlt : i < ms.length
  · have hp : ms[i]? = some ms[i] := List.getElem?_eq_getElem hlt
    have hpm : ms[i] ∈ ms := List.getElem_mem hlt
    have hst := ownF_len_step es (ms.take i) ms[i]
    rw [← List.take_succ_eq_append_getElem hlt] at hst
    have hln := ownF_len es (ms.take i)
    rw [List.length_take] at hln
    generalize ms[i] = p at hp hpm hst
    generalize (ownF es (ms.take i)).length = n at hst hln
    have hcast : ((i : Int) + 1) = ((i + 1 : Nat) : Int) := by omega
    simp (disch := omega) only [go_sem, ↓reduceIte , hone9]
    refine beg_round (by omega) hs1 hml (hmi p hpm) hp (hr.kp hk hx (by simp)) hrl hsrt (hA.kp' (nx' := nx) hk hx (by simp)) hsl hid (by omega) (hrt p hpm) (fun n' H' nx' rest' hn' hx' hk' => ?_)
    rw [← hst] at hn'
    subst hn'
    simp (disch := omega) only [go_sem, ↓reduceIte , hcast]
    exact ⟨ms.length - (i + 1), by omega, i + 1, ⟨rfl, by omega, ⟨_, rfl⟩, by omega, hk.trans (U := fun _ => False) hk' (by omega) (fun _ _ h => h) (fun _ _ h => h)⟩⟩
  · have : i = ms.length := by omega
    subst this
    simp (disch := omega) only [go_sem, ↓reduceIte , hone9]
    exact hK _ _ _ _ _ (by rw [List.take_length]) hx hk
end Go.Proofs.YtngnbafididkcaaGreat
end
section
namespace Go.Proofs.YtngnbafididkcaaGreat
open Go.RowKit
set_option linter.unusedSimpArgs false
noncomputable def bgT : Code := codeAt [.T, .T, .T, .T, .T, .T, .T, .T, .T, .T] ((Tryz.f12.body).getD .skip)
set_option maxHeartbeats 4000000 in
set_option maxRecDepth 20000 in
theorem beg_tail {lo nx : Nat} {H : AH} {v5 v9 : Value} {a13 : Option Addr} {id f : Int} {b7 pt i n c13 nprt xc : Nat} {xa : Option Addr} {e : Eng} {y : ELay} {col : Nat → Nat} {rest : Env} {R : Value → AH → Nat → Prop} (hlo : lo ≤ nx) (hA : EngA lo nx H pt e y col) (heid : e.id = id % 16) (hid : 0 ≤ id ∧ id ≤ 255) (cx0 : H.c b7 0 = some (.int .i64 f)) (cx1 : H.c b7 1 = some (.slice xa nprt xc))
    (hR : ∀ H' nx', nx ≤ nx' → Kp (fun _ => False) nx H H' → R (.bool true) H' nx') :
    awp Tryz.prog lo L12 bgT (retQ Tryz.prog Tryz.f12 R) ((2, .int .u8 id) :: (7, .pointer (some ⟨b7, 0, none⟩)) :: (9, v9) :: (10, v5) :: (12, .pointer (some ⟨pt, 0, none⟩)) :: (13, .slice a13 n c13) :: (14, .int .i64 (n : Nat)) :: (15, .int .i64 (i : Nat)) :: rest) H nx := by
  have hcode : bgT = codeAt [.T, .T, .T, .T, .T, .T, .T, .T, .T, .T] ((Tryz.f12.body).getD .skip) := rfl
  simp only [Tryz.f12, Option.getD_some, codeAt_H, codeAt_T, codeAt_I, codeAt_L, codeAt_C, codeAt_P, codeAt_nil] at hcode
  rw [hcode]
  clear hcode
  simp (disch := omega) only [go_sem, ↓reduceIte , cx0, cx1]
  refine (enil_hear _ _ _).mono fun v H1 nx1 _ ⟨hv, hx1, hk1⟩ => ?_
  subst hv
  simp (disch := omega) only [go_sem, ↓reduceIte ]
  refine enil_bad.mono fun v H1' nx1' _ ⟨hv, hH, hx⟩ => ?_
  subst hv; subst hH; subst hx
  simp (disch := omega) only [go_sem, ↓reduceIte ]
  refine (enil_tick _).mono fun v H2 nx2 _ ⟨hv, hx2, hk2⟩ => ?_
  subst hv
  simp (disch := omega) only [go_sem, ↓reduceIte ]
  refine (enil_tell _ _).mono fun v H3 nx3 _ ⟨hv, hx3, hk3⟩ => ?_
  subst hv
  simp (disch := omega) only [go_sem, ↓reduceIte ]
  intro b23 hb23
  simp (disch := omega) only [go_sem, ↓reduceIte ]
  have k3 : Kp (fun _ => False) nx H H3 := (hk1.trans (U := fun _ => False) hk2 (by omega) (fun _ _ h => h) (fun _ _ h => h)).trans (U := fun _ => False) hk3 (by omega) (fun _ _ h => h) (fun _ _ h => h)
  have k3b : Kp (fun _ => False) nx3 H3 (((H3.new b23 #[.int .i64 0, .slice none 0 0] 36).put b23 0 (.int .i64 0)).put b23 1 (.slice none 0 0)) := (by repeat first | exact Kp.refl _ _ _ | refine Kp.dropT ?_ (.inl (by omega)) | refine Kp.put ?_ (.inl (by omega)) | refine Kp.new ?_ (by omega) | refine Kp.put ?_ (.inr (by omega)) | refine Kp.newO ?_ (by omega) | refine Kp.setO ?_ (.inl (by omega)) | refine Kp.setO ?_ (.inr (by omega)) | refine Kp.trans0 ?_ (by assumption) (by omega) | refine Kp.transS ?_ (by assumption) (by omega) (fun b hb hT => by first | omega | (dsimp only at hT ⊢; omega) | (simp only at hT ⊢; omega))) 
  generalize (((H3.new b23 #[.int .i64 0, .slice none 0 0] 36).put b23 0 (.int .i64 0)).put b23 1 (.slice none 0 0)) = M at k3b ⊢
  refine own17_c.mono fun v H4 nx4 _ ⟨b4, hb4, hv, hx4, hk4, hs4⟩ => ?_
  subst hv
  have d40 : H4.c b4 (Int.toNat 0 * 2) = some (.int .u32 201326592) := (px_parts hs4 (i := 0) rfl).1
  have d41 : H4.c b4 (Int.toNat 0 * 2 + 1) = some (.int .u8 24) := (px_parts hs4 (i := 0) rfl).2
  subst hx4
  simp (disch := omega) only [go_sem, ↓reduceIte , d40, d41]
  refine (enil_mark _ _).mono fun v H5 nx5 _ ⟨hv, hx5, hk5⟩ => ?_
  subst hv
  simp (disch := omega) only [go_sem, ↓reduceIte ]
  intro b25 hb25
  simp (disch := omega) only [go_sem, ↓reduceIte ]
  have k5 : Kp (fun _ => False) nx H H5 := ((k3.trans (U := fun _ => False) k3b (by omega) (fun _ _ h => h) (fun _ _ h => h)).trans (U := fun _ => False) hk4 (by omega) (fun _ _ h => h) (fun _ _ h => h)).trans (U := fun _ => False) hk5 (by omega) (fun _ _ h => h) (fun _ _ h => h)
  have k5b : Kp (fun _ => False) nx5 H5 (((H5.new b25 #[.int .u16 0, .int .u16 0] 52).put b25 0 (.int .u16 0)).put b25 1 (.int .u16 0)) := (by repeat first | exact Kp.refl _ _ _ | refine Kp.dropT ?_ (.inl (by omega)) | refine Kp.put ?_ (.inl (by omega)) | refine Kp.new ?_ (by omega) | refine Kp.put ?_ (.inr (by omega)) | refine Kp.newO ?_ (by omega) | refine Kp.setO ?_ (.inl (by omega)) | refine Kp.setO ?_ (.inr (by omega)) | refine Kp.trans0 ?_ (by assumption) (by omega) | refine Kp.transS ?_ (by assumption) (by omega) (fun b hb hT => by first | omega | (dsimp only at hT ⊢; omega) | (simp only at hT ⊢; omega))) 
  generalize (((H5.new b25 #[.int .u16 0, .int .u16 0] 52).put b25 0 (.int .u16 0)).put b25 1 (.int .u16 0)) = M5 at k5b ⊢
  refine own17_c.mono fun v H6 nx6 _ ⟨b6, hb6, hv, hx6, hk6, hs6⟩ => ?_
  subst hv
  have d60 : H6.c b6 (Int.toNat 0 * 2) = some (.int .u32 201326592) := (px_parts hs6 (i := 0) rfl).1
  have d61 : H6.c b6 (Int.toNat 0 * 2 + 1) = some (.int .u8 24) := (px_parts hs6 (i := 0) rfl).2
  subst hx6
  simp (disch := omega) only [go_sem, ↓reduceIte , d60, d61]
  refine (enil_route _ _).mono fun v H7 nx7 _ ⟨hv, hx7, hk7⟩ => ?_
  subst hv
  simp (disch := omega) only [go_sem, ↓reduceIte ]
  intro b27 hb27
  have k7 : Kp (fun _ => False) nx H H7 := ((k5.trans (U := fun _ => False) k5b (by omega) (fun _ _ h => h) (fun _ _ h => h)).trans (U := fun _ => False) hk6 (by omega) (fun _ _ h => h) (fun _ _ h => h)).trans (U := fun _ => False) hk7 (by omega) (fun _ _ h => h) (fun _ _ h => h)
  generalize hG : awp Tryz.prog lo L12 = G
  simp (disch := omega) only [go_sem, ↓reduceIte ]
  rw [← hG]
  simp only [awp_seq, awp_region]
  have k7b : Kp (fun _ => False) nx7 H7 ((((((H7.new b27 #[.int .u32 0, .int .u8 0, .int .i64 0, .int .u16 0, .int .u16 0] 40).put b27 0 (.int .u32 0)).put b27 1 (.int .u8 0)).put b27 (1 + 1) (.int .i64 0)).put b27 (1 + 1 + 1) (.int .u16 0)).put b27 (1 + 1 + 1 + 1) (.int .u16 0)) := (by repeat first | exact Kp.refl _ _ _ | refine Kp.dropT ?_ (.inl (by omega)) | refine Kp.put ?_ (.inl (by omega)) | refine Kp.new ?_ (by omega) | refine Kp.put ?_ (.inr (by omega)) | refine Kp.newO ?_ (by omega) | refine Kp.setO ?_ (.inl (by omega)) | refine Kp.setO ?_ (.inr (by omega)) | refine Kp.trans0 ?_ (by assumption) (by omega) | refine Kp.transS ?_ (by assumption) (by omega) (fun b hb hT => by first | omega | (dsimp only at hT ⊢; omega) | (simp only at hT ⊢; omega))) 
  generalize ((((((H7.new b27 #[.int .u32 0, .int .u8 0, .int .i64 0, .int .u16 0, .int .u16 0] 40).put b27 0 (.int .u32 0)).put b27 1 (.int .u8 0)).put b27 (1 + 1) (.int .i64 0)).put b27 (1 + 1 + 1) (.int .u16 0)).put b27 (1 + 1 + 1 + 1) (.int .u16 0)) = M7 at k7b ⊢
  have k7c : Kp (fun _ => False) nx H M7 := k7.trans (U := fun _ => False) k7b (by omega) (fun _ _ h => h) (fun _ _ h => h)
  simp (disch := omega) only [go_sem, ↓reduceIte ]
  refine (eid_c (hA.kp' (nx' := b27 + 1) k7c (by omega) (by simp))).mono fun v H8 nx8 _ ⟨hv, hH, hx⟩ => ?_
  subst hv; subst hH; subst hx
  rw [heid]
  simp (disch := omega) only [go_sem, ↓reduceIte ]
  refine enil_select.mono fun v H9 nx9 _ ⟨hv, hx9, hk9⟩ => ?_
  subst hv
  simp (disch := omega) only [go_sem, ↓reduceIte ]
  refine enil_chosen.mono fun v H9' nx9' _ ⟨hv, hH, hx⟩ => ?_
  subst hv; subst hH; subst hx
  simp (disch := omega) only [go_sem, ↓reduceIte ]
  refine enil_links.mono fun v H10 nx10 _ ⟨hv, hx10, hk10⟩ => ?_
  subst hv
  simp (disch := omega) only [go_sem, ↓reduceIte ]
  refine enil_id.mono fun v H10' nx10' _ ⟨hv, hH, hx⟩ => ?_
  subst hv; subst hH; subst hx
  simp (disch := omega) only [go_sem, ↓reduceIte ]
  refine enil_counts.mono fun v H11 nx11 _ ⟨hv, hx11, hk11⟩ => ?_
  subst hv
  simp (disch := omega) only [go_sem, ↓reduceIte ]
  have k11 := ((k7c.trans (U := fun _ => False) hk9 (by omega) (fun _ _ h => h) (fun _ _ h => h)).trans (U := fun _ => False) hk10 (by omega) (fun _ _ h => h) (fun _ _ h => h)).trans (U := fun _ => False) hk11 (by omega) (fun _ _ h => h) (fun _ _ h => h)
  exact hR _ _ (by omega) k11
end Go.Proofs.YtngnbafididkcaaGreat
end
section
namespace Go.Proofs.YtngnbafididkcaaGreat
open Go.RowKit
set_option linter.unusedSimpArgs false
noncomputable def bg0 : Code := ((Tryz.f12.body).getD .skip)
set_option maxHeartbeats 4000000 in
set_option maxRecDepth 20000 in
theorem engineBegins_c {lo nx : Nat} {H : AH} {v0 v1 : Value} {l : List (Int × Int)} {acts : List Act5} {id f : Int} {own0 own1 nprt : Nat} {xa : Option Addr} {xc : Nat} (hs0 : SlA nx H 2 v0 l.length (pxC l) own0) (hpx : ∀ p ∈ l, (0 ≤ p.1 ∧ p.1 ≤ 4294967295) ∧ 0 ≤ p.2 ∧ p.2 ≤ 255) (hs1 : SlA nx H 5 v1 acts.length (actCells acts) own1) (hok : ∀ x ∈ acts, Act5Ok x) (hid : 0 ≤ id ∧ id ≤ 255) :
    ACalls Tryz.prog lo 12 #[v0, v1, .int .u8 id, .agg #[.int .i64 f, .slice xa nprt xc]] H nx (fun v H' nx' => v = .bool true ∧ nx ≤ nx' ∧ Kp (fun _ => False) nx H H') := by
  refine ACalls.withLo fun hlo => ?_
  refine acalls_of_awp (c := bg0) L12 Tryz.func12 rfl (by kernel_rfl) ?_
  have hcode : bg0 = .seq (codeAt [.H] ((Tryz.f12.body).getD .skip)) (.seq (codeAt [.T, .H] ((Tryz.f12.body).getD .skip)) (.seq (codeAt [.T, .T, .H] ((Tryz.f12.body).getD .skip)) (.seq (codeAt [.T, .T, .T, .H] ((Tryz.f12.body).getD .skip)) (.seq (.seq (codeAt [.T, .T, .T, .T, .H, .H] ((Tryz.f12.body).getD .skip)) (.block 0 bgL1)) (.seq (codeAt [.T, .T, .T, .T, .T, .H] ((Tryz.f12.body).getD .skip)) (.seq (codeAt [.T, .T, .T, .T, .T, .T, .H] ((Tryz.f12.body).getD .skip)) (.seq (codeAt [.T, .T, .T, .T, .T, .T, .T, .H] ((Tryz.f12.body).getD .skip)) (.seq (codeAt [.T, .T, .T, .T, .T, .T, .T, .T, .H] ((Tryz.f12.body).getD .skip)) (.seq (.seq (codeAt [.T, .T, .T, .T, .T, .T, .T, .T, .T, .H, .H] ((Tryz.f12.body).getD .skip)) (.block 2 bgL2)) bgT))))))))) := rfl
  simp only [Tryz.f12, Option.getD_some, codeAt_H, codeAt_T, codeAt_I, codeAt_L, codeAt_C, codeAt_P, codeAt_nil] at hcode
  rw [hcode]
  clear hcode
  have hmax0 := hs0.maxLen
  have hmax1 := hs1.maxLen
  obtain ⟨a0, c0, rfl⟩ := hs0.form
  obtain ⟨a1, c1, rfl⟩ := hs1.form
  simp (disch := omega) only [go_sem, ↓reduceIte ]
  intro b7 hb7
  simp (disch := omega) only [go_sem, ↓reduceIte ]
  refine awake17_c.mono fun v H1 nx1 _ ⟨hv, hx1, hk1⟩ => ?_
  subst hv
  have cx0 : H1.c b7 0 = some (.int .i64 f) := by rw [hk1.cell0 b7 _ (by omega)]; simp (disch := omega) only [go_sem, ↓reduceIte ]
  have cx1 : H1.c b7 1 = some (.slice xa nprt xc) := by rw [hk1.cell0 b7 _ (by omega)]; simp (disch := omega) only [go_sem, ↓reduceIte ]
  have kb : Kp (fun _ => False) nx H (H.new b7 #[.int .i64 f, .slice xa nprt xc] 36) := (by repeat first | exact Kp.refl _ _ _ | refine Kp.dropT ?_ (.inl (by omega)) | refine Kp.put ?_ (.inl (by omega)) | refine Kp.new ?_ (by omega) | refine Kp.put ?_ (.inr (by omega)) | refine Kp.newO ?_ (by omega) | refine Kp.setO ?_ (.inl (by omega)) | refine Kp.setO ?_ (.inr (by omega)) | refine Kp.trans0 ?_ (by assumption) (by omega) | refine Kp.transS ?_ (by assumption) (by omega) (fun b hb hT => by first | omega | (dsimp only at hT ⊢; omega) | (simp only at hT ⊢; omega))) 
  have k01 := kb.trans (U := fun _ => False) hk1 (by omega) (fun _ _ h => h) (fun _ _ h => h)
  by_cases hb0 : 20 < l.length
  · simp (disch := omega) only [go_sem, ↓reduceIte , cx1]
    refine awake17_c.mono fun v H2 nx2 _ ⟨hv, hx2, hk2⟩ => ?_
    subst hv
    simp (disch := omega) only [go_sem, ↓reduceIte ]
    exact ⟨by omega, k01.trans (U := fun _ => False) hk2 (by omega) (fun _ _ h => h) (fun _ _ h => h)⟩
  by_cases hb1 : 30 < acts.length
  · simp (disch := omega) only [go_sem, ↓reduceIte , cx1]
    refine awake17_c.mono fun v H2 nx2 _ ⟨hv, hx2, hk2⟩ => ?_
    subst hv
    simp (disch := omega) only [go_sem, ↓reduceIte ]
    exact ⟨by omega, k01.trans (U := fun _ => False) hk2 (by omega) (fun _ _ h => h) (fun _ _ h => h)⟩
  by_cases hb2 : 20 < nprt
  · simp (disch := omega) only [go_sem, ↓reduceIte , cx1]
    refine awake17_c.mono fun v H2 nx2 _ ⟨hv, hx2, hk2⟩ => ?_
    subst hv
    simp (disch := omega) only [go_sem, ↓reduceIte ]
    exact ⟨by omega, k01.trans (U := fun _ => False) hk2 (by omega) (fun _ _ h => h) (fun _ _ h => h)⟩
  simp (disch := omega) only [go_sem, ↓reduceIte , cx1]
  refine (history_c (hs1.kp k01 (by omega) (by simp)) hok).mono fun v H2 nx2 _ ⟨cs, ownc, tt, hsc, hHist, hcl, howc, hx2, hk2⟩ => ?_
  simp (disch := omega) only [go_sem, ↓reduceIte ]
  refine (rows07r_c hsc hHist.ok (by omega)).mono fun v9 H3 nx3 _ ⟨rs, ownr, hsr, howr, hrsrt, hrok, hrl, hx3, hk3⟩ => ?_
  have hone9 := hsr.one
  simp (disch := omega) only [go_sem, ↓reduceIte , hone9]
  have k03 := (k01.trans (U := fun _ => False) hk2 (by omega) (fun _ _ h => h) (fun _ _ h => h)).trans (U := fun _ => False) hk3 (by omega) (fun _ _ h => h) (fun _ _ h => h)
  have hs03 := hs0.kp k03 (nx' := nx3) (by omega) (by simp)
  refine beg_l1 (by omega) hs03 (by omega) (fun ps v own H4 nx4 i hpl hpm hsp how4 hx4 hk4 => ?_)
  have hone10 := hsp.one
  have hs04 := hs03.kp hk4 hx4 (by simp)
  simp (disch := omega) only [go_sem, ↓reduceIte ]
  refine appendQ_two (aw_append sl46 zero30 rfl by30 hsp (hs04.src sl46 pxC_one) (by simp only [maxLen]; omega) (by omega) (by omega) fun v5 H5 nx5 own5 hx5 hs5 ho5 hk5 _ => ?_)
  have hone5 := hs5.one
  have hms : SlA nx5 H5 2 v5 (ps ++ l).length (pxC (ps ++ l)) own5 := by
    rw [List.length_append, pxC_append]
    exact hs5
  have hmi : ∀ p ∈ ps ++ l, pxIn p := fun p hp => by
    rcases List.mem_append.1 hp with hp | hp
    · exact hpm p hp
    · exact hpx p hp
  have hml : (ps ++ l).length ≤ 24 := by rw [List.length_append]; omega
  generalize ps ++ l = ms at hms hmi hml
  have k05 := (k03.trans (U := fun _ => False) hk4 (by omega) (fun _ _ h => h) (fun _ _ h => h)).trans (U := fun _ => False) hk5 (by omega) (fun _ _ h => h) (fun b hb h => by omega)
  have k35 := hk4.trans (U := fun _ => False) hk5 (by omega) (fun _ _ h => h) (fun b hb h => by omega)
  have hsr5 := hsr.kp k35 (nx' := nx5) (by omega) (by simp)
  simp (disch := omega) only [go_sem, ↓reduceIte , hone5]
  refine (enewG_c (id % 16) hms (fun p hp => (hmi p hp).2.1) (by omega) hsr5 hrsrt hrok (by omega)).mono fun v H6 nx6 _ ⟨pt, y6, col6, es, hv, hwant, hesl, hesS, st6⟩ => ?_
  subst hv
  have hle6 := st6.le
  simp (disch := omega) only [go_sem, ↓reduceIte ]
  refine (eselect_c st6.a (engG_pre (by omega) (by omega) (fun p hp => (hmi p hp).2.1))).mono fun v13 H7 nx7 _ ⟨e2, L2, ks2, es12, es22, ts2, tb2, d2, l22, y2, c2, ow2, hse2, sa2, hsl2, how2, hko2⟩ => ?_
  have st7 := st6.trans sa2
  have hle7 := st7.le
  have hn13 := hsl2.one
  have hle2 := sa2.le
  have k57 := st7.kp0
  have hms7 := hms.kp k57 (nx' := nx7) (by omega) (by simp)
  have hsr7 := hsr5.kp k57 (nx' := nx7) (by omega) (by simp)
  have hsel2 := (beg_id (es := es) (ps := ms) hse2).2
  have hid2 := (beg_id (es := es) (ps := ms) hse2).1
  have hlen2 := beg_len (es := es) (ps := ms) hse2
  have hown2 := ownF_len es ms
  simp (disch := omega) only [go_sem, ↓reduceIte , hn13]
  refine beg_l2 (es := es) (by omega) hms7 hml hmi hsr7 (by omega) hrsrt st7.a (by rw [hsel2]; omega) hid (fun p hp hpr => by rw [← seqR_O hwant p]; exact beg_route (es := es) hse2 hp hpr) (fun H8 nx8 n i rest hn hx8 hk8 => ?_)
  obtain ⟨a13, c13, rfl⟩ := hsl2.form
  rw [hlen2, ← hn]
  have k18 : Kp (fun _ => False) nx1 H1 H8 := (((hk2.trans (U := fun _ => False) hk3 (by omega) (fun _ _ h => h) (fun _ _ h => h)).trans (U := fun _ => False) k35 (by omega) (fun _ _ h => h) (fun _ _ h => h)).trans (U := fun _ => False) k57 (by omega) (fun _ _ h => h) (fun _ _ h => h)).trans (U := fun _ => False) hk8 (by omega) (fun _ _ h => h) (fun _ _ h => h)
  have k08 : Kp (fun _ => False) nx H H8 := k01.trans (U := fun _ => False) k18 (by omega) (fun _ _ h => h) (fun _ _ h => h)
  refine beg_tail (by omega) (st7.a.kp' (nx' := nx8) hk8 (by omega) (by simp)) hid2 hid (by rw [k18.cell0 b7 _ (by omega)]; exact cx0) (by rw [k18.cell0 b7 _ (by omega)]; exact cx1) (fun H9 nx9 hx9 hk9 => ?_)
  exact ⟨rfl, by omega, k08.trans (U := fun _ => False) hk9 (by omega) (fun _ _ h => h) (fun _ _ h => h)⟩
end Go.Proofs.YtngnbafididkcaaGreat
end
