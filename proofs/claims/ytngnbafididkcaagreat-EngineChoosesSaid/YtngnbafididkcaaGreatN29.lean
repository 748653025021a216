/- EngineChooses: in our own logic. -/
import Derived.Test.YtngnbafididkcaaGreatN28
import Derived.Test.YtngnbafididkcaaGreatN21
namespace Go.Proofs.YtngnbafididkcaaGreat
open Go.RowKit
set_option linter.unusedSimpArgs false

/-- A packet with one part, made fresh. -/
theorem one_part (H : AH) (f : Nat) (x : Prt) (nx : Nat) (hf : nx ≤ f) : Kp (fun _ => False) nx H (H.new f ([Value.agg #[.int .u8 x.kind, .int .u64 x.n, .int .i64 x.node, .int .u32 x.addr, .int .u8 x.len, .int .u16 x.seq, .int .u16 x.metric]].flatMap fun v => v.cells.toList).toArray 32) := (by repeat first | exact Kp.refl _ _ _ | refine Kp.dropT ?_ (.inl (by omega)) | refine Kp.put ?_ (.inl (by omega)) | refine Kp.new ?_ (by omega) | refine Kp.put ?_ (.inr (by omega)) | refine Kp.newO ?_ (by omega) | refine Kp.setO ?_ (.inl (by omega)) | refine Kp.setO ?_ (.inr (by omega)) | refine Kp.trans0 ?_ (by assumption) (by omega) | refine Kp.transS ?_ (by assumption) (by omega) (fun b hb hT => by first | omega | (dsimp only at hT ⊢; omega) | (simp only at hT ⊢; omega))) 
noncomputable def chT13 : Code := codeAt [.T, .T, .T, .T, .T, .T, .T, .T, .T, .T, .T, .T, .T] ((Tryz.f3.body).getD .skip)
/-- What a way is long, as the law has it. -/
def longW (m c : Int) : Int := if m = 65535 ∨ c = 65535 ∨ 65535 ≤ m + c then 65535 else m + c
set_option maxHeartbeats 1000000 in
set_option maxRecDepth 20000 in
theorem choose_tail2 {lo nx nx0 : Nat} {H H0 : AH} {x y p s c1 c2 : Int} {b14 : Nat} {o : Option Rt} {rest : Env} (hx : 0 ≤ x) (hy : 0 ≤ y) (hc1 : 1 ≤ c1) (hc2 : 1 ≤ c2) (hp : 0 ≤ p ∧ p ≤ 255) (hnx : nx0 ≤ nx) (hk : Kp (fun _ => False) nx0 H0 H)
    (ho : o = pick2 (wayT (pfxA p) (pfxN p) 1 s x c1) (wayT (pfxA p) (pfxN p) 2 s y c2)) (hc : loadN H b14 0 5 = some (o.getD rt0).cells) :
    awp Tryz.prog lo L3 chT13 (retQ Tryz.prog Tryz.f3 fun v H' nx' => v = .bool true ∧ nx0 ≤ nx' ∧ Kp (fun _ => False) nx0 H0 H') ((4, .int .u8 p) :: (5, .int .u16 s) :: (14, .pointer (some ⟨b14, 0, none⟩)) :: (15, .bool o.isSome) :: (18, .int .i64 (longW x c1)) :: (19, .int .i64 (longW y c2)) :: rest) H nx := by
  have hcode : chT13 = codeAt [.T, .T, .T, .T, .T, .T, .T, .T, .T, .T, .T, .T, .T] ((Tryz.f3.body).getD .skip) := rfl
  simp only [Tryz.f3, Option.getD_some, codeAt_H, codeAt_T, codeAt_I, codeAt_L, codeAt_C, codeAt_P, codeAt_nil] at hcode
  rw [hcode]
  clear hcode
  have fin : ∀ (r : Rt), o = some r → r.addr = pfxA p → r.len = pfxN p → r.seq = s → ∀ (k : Kp (fun _ => False) nx0 H0 H), loadN H b14 0 5 = some [.int .u32 (pfxA p), .int .u8 (pfxN p), .int .i64 r.via, .int .u16 r.metric, .int .u16 s] := fun r hr h1 h2 h3 _ => by
    rw [hc, hr]
    simp only [Option.getD_some, Rt.cells, h1, h2, h3]
  unfold wayT at ho
  unfold longW
  by_cases hA : x = 65535 ∨ c1 = 65535 ∨ 65535 ≤ x + c1
  · rw [if_pos hA] at ho ⊢
    by_cases hB : y = 65535 ∨ c2 = 65535 ∨ 65535 ≤ y + c2
    · rw [if_pos hB] at ho ⊢
      have ho : o = none := ho
      subst ho
      simp (disch := omega) only [go_sem, ↓reduceIte , Option.isSome_none]
      exact ⟨hnx, hk⟩
    · rw [if_neg hB] at ho ⊢
      have ho : o = some ⟨pfxA p, pfxN p, 2, y + c2, s⟩ := ho
      have hld := fin _ ho rfl rfl rfl hk
      subst ho
      simp (disch := omega) only [go_sem, ↓reduceIte , Option.isSome_some]
      refine awp_draw ord3x22 (by kernel_rfl) ?_
      simp (disch := omega) only [go_sem, ↓reduceIte , ord3x22, hld]
      refine (pfx_c p hp.1 hp.2 _ _).mono fun v H1 nx1 _ ⟨hv, hx1, hk1⟩ => ?_
      subst hv
      simp (disch := omega) only [go_sem, ↓reduceIte , ord3x22]
      exact ⟨dkeep_kp hk1, by omega, hk.trans (U := fun _ => False) hk1 hnx (fun _ _ h => h) (fun _ _ h => h)⟩
  · rw [if_neg hA] at ho ⊢
    by_cases hB : y = 65535 ∨ c2 = 65535 ∨ 65535 ≤ y + c2
    · rw [if_pos hB] at ho ⊢
      have ho : o = some ⟨pfxA p, pfxN p, 1, x + c1, s⟩ := ho
      have hld := fin _ ho rfl rfl rfl hk
      subst ho
      simp (disch := omega) only [go_sem, ↓reduceIte , Option.isSome_some]
      refine awp_draw ord3x22 (by kernel_rfl) ?_
      simp (disch := omega) only [go_sem, ↓reduceIte , ord3x22, hld]
      refine (pfx_c p hp.1 hp.2 _ _).mono fun v H1 nx1 _ ⟨hv, hx1, hk1⟩ => ?_
      subst hv
      simp (disch := omega) only [go_sem, ↓reduceIte , ord3x22]
      exact ⟨dkeep_kp hk1, by omega, hk.trans (U := fun _ => False) hk1 hnx (fun _ _ h => h) (fun _ _ h => h)⟩
    · rw [if_neg hB] at ho ⊢
      by_cases hlt : y + c2 < x + c1
      · have ho : o = some ⟨pfxA p, pfxN p, 2, y + c2, s⟩ := by rw [ho]; simp only [pick2]; rw [if_pos hlt]
        have hld := fin _ ho rfl rfl rfl hk
        subst ho
        simp (disch := omega) only [go_sem, ↓reduceIte , Option.isSome_some]
        refine awp_draw ord3x22 (by kernel_rfl) ?_
        simp (disch := omega) only [go_sem, ↓reduceIte , ord3x22, hld]
        refine (pfx_c p hp.1 hp.2 _ _).mono fun v H1 nx1 _ ⟨hv, hx1, hk1⟩ => ?_
        subst hv
        simp (disch := omega) only [go_sem, ↓reduceIte , ord3x22]
        exact ⟨dkeep_kp hk1, by omega, hk.trans (U := fun _ => False) hk1 hnx (fun _ _ h => h) (fun _ _ h => h)⟩
      · have ho : o = some ⟨pfxA p, pfxN p, 1, x + c1, s⟩ := by rw [ho]; simp only [pick2]; rw [if_neg hlt]
        have hld := fin _ ho rfl rfl rfl hk
        subst ho
        simp (disch := omega) only [go_sem, ↓reduceIte , Option.isSome_some]
        refine awp_draw ord3x22 (by kernel_rfl) ?_
        simp (disch := omega) only [go_sem, ↓reduceIte , ord3x22, hld]
        refine (pfx_c p hp.1 hp.2 _ _).mono fun v H1 nx1 _ ⟨hv, hx1, hk1⟩ => ?_
        subst hv
        simp (disch := omega) only [go_sem, ↓reduceIte , ord3x22]
        exact ⟨dkeep_kp hk1, by omega, hk.trans (U := fun _ => False) hk1 hnx (fun _ _ h => h) (fun _ _ h => h)⟩
noncomputable def chT0 : Code := (Tryz.f3.body).getD .skip
noncomputable def chT7 : Code := codeAt [.T, .T, .T, .T, .T, .T, .T] ((Tryz.f3.body).getD .skip)
set_option maxHeartbeats 8000000 in
set_option maxRecDepth 20000 in
theorem choose_tail {lo nx nx0 : Nat} {H H0 : AH} {a b x y p s : Int} {b14 : Nat} {o : Option Rt} (ha : 0 ≤ a ∧ a ≤ 65535) (hb : 0 ≤ b ∧ b ≤ 65535) (hx : 0 ≤ x ∧ x ≤ 65535) (hy : 0 ≤ y ∧ y ≤ 65535) (hp : 0 ≤ p ∧ p ≤ 255) (hnx : nx0 ≤ nx) (hk : Kp (fun _ => False) nx0 H0 H)
    (ho : o = pick2 (wayT (pfxA p) (pfxN p) 1 s x (max a 1)) (wayT (pfxA p) (pfxN p) 2 s y (max b 1))) (hc : loadN H b14 0 5 = some (o.getD rt0).cells) :
    awp Tryz.prog lo L3 chT7 (retQ Tryz.prog Tryz.f3 fun v H' nx' => v = .bool true ∧ nx0 ≤ nx' ∧ Kp (fun _ => False) nx0 H0 H') [(0, .int .u16 a), (1, .int .u16 b), (2, .int .u16 x), (3, .int .u16 y), (4, .int .u8 p), (5, .int .u16 s), (14, .pointer (some ⟨b14, 0, none⟩)), (15, .bool o.isSome)] H nx := by
  have hcode : chT7 = .seq (codeAt [.T, .T, .T, .T, .T, .T, .T, .H] ((Tryz.f3.body).getD .skip)) (.seq (codeAt [.T, .T, .T, .T, .T, .T, .T, .T, .H] ((Tryz.f3.body).getD .skip)) (.seq (codeAt [.T, .T, .T, .T, .T, .T, .T, .T, .T, .H] ((Tryz.f3.body).getD .skip)) (.seq (codeAt [.T, .T, .T, .T, .T, .T, .T, .T, .T, .T, .H] ((Tryz.f3.body).getD .skip)) (.seq (codeAt [.T, .T, .T, .T, .T, .T, .T, .T, .T, .T, .T, .H] ((Tryz.f3.body).getD .skip)) (.seq (codeAt [.T, .T, .T, .T, .T, .T, .T, .T, .T, .T, .T, .T, .H] ((Tryz.f3.body).getD .skip)) chT13))))) := rfl
  simp only [Tryz.f3, Option.getD_some, codeAt_H, codeAt_T, codeAt_I, codeAt_L, codeAt_C, codeAt_P, codeAt_nil] at hcode
  rw [hcode]
  clear hcode
  simp (disch := omega) only [go_sem, ↓reduceIte ]
  refine (priced17_c a ha).mono fun v H1 nx1 _ ⟨hv, hn1, hH1⟩ => ?_
  subst hv; subst hn1; subst hH1
  simp (disch := omega) only [go_sem, ↓reduceIte ]
  refine (priced17_c b hb).mono fun v H1 nx1 _ ⟨hv, hn1, hH1⟩ => ?_
  subst hv; subst hn1; subst hH1
  have ha1 : 1 ≤ max a 1 ∧ max a 1 ≤ 65535 := by omega
  have hb1 : 1 ≤ max b 1 ∧ max b 1 ≤ 65535 := by omega
  generalize max a 1 = c1 at ho ha1 ⊢
  generalize max b 1 = c2 at ho hb1 ⊢
  have g2 : ∀ {H1 : AH} {nx1 : Nat} {m n : Int} {rest : Env}, H1 = H1 → longW x c1 = m → longW y c2 = n → nx0 ≤ nx1 → Kp (fun _ => False) nx0 H0 H1 → loadN H1 b14 0 5 = some (o.getD rt0).cells → awp Tryz.prog lo L3 chT13 (retQ Tryz.prog Tryz.f3 fun v H' nx' => v = .bool true ∧ nx0 ≤ nx' ∧ Kp (fun _ => False) nx0 H0 H') ((4, .int .u8 p) :: (5, .int .u16 s) :: (14, .pointer (some ⟨b14, 0, none⟩)) :: (15, .bool o.isSome) :: (18, .int .i64 m) :: (19, .int .i64 n) :: rest) H1 nx1 := fun _ hm hn h2 h3 h5 => by
    rw [← hm, ← hn]
    exact choose_tail2 hx.1 hy.1 ha1.1 hb1.1 hp h2 h3 ho h5
  have la : x = 65535 ∨ c1 = 65535 ∨ 65535 ≤ x + c1 → longW x c1 = 65535 := fun h => if_pos h
  have la' : ¬ (x = 65535 ∨ c1 = 65535 ∨ 65535 ≤ x + c1) → longW x c1 = x + c1 := fun h => if_neg h
  have lb : y = 65535 ∨ c2 = 65535 ∨ 65535 ≤ y + c2 → longW y c2 = 65535 := fun h => if_pos h
  have lb' : ¬ (y = 65535 ∨ c2 = 65535 ∨ 65535 ≤ y + c2) → longW y c2 = y + c2 := fun h => if_neg h
  clear ho
  rcases (show x = 65535 ∨ (x ≠ 65535 ∧ c1 = 65535) ∨ (x ≠ 65535 ∧ c1 ≠ 65535 ∧ 65535 ≤ x + c1) ∨ (x ≠ 65535 ∧ c1 ≠ 65535 ∧ x + c1 < 65535) by omega) with hA | hA | hA | hA
  · have m1 := la (by omega)
    clear la la'
    rcases (show y = 65535 ∨ (y ≠ 65535 ∧ c2 = 65535) ∨ (y ≠ 65535 ∧ c2 ≠ 65535 ∧ 65535 ≤ y + c2) ∨ (y ≠ 65535 ∧ c2 ≠ 65535 ∧ y + c2 < 65535) by omega) with hB | hB | hB | hB
    · have m2 := lb (by omega)
      clear lb lb'
      simp (disch := omega) only [go_sem, ↓reduceIte ]
      exact g2 rfl m1 m2 hnx hk hc
    · have m2 := lb (by omega)
      clear lb lb'
      simp (disch := omega) only [go_sem, ↓reduceIte ]
      exact g2 rfl m1 m2 hnx hk hc
    · have m2 := lb (by omega)
      clear lb lb'
      simp (disch := omega) only [go_sem, ↓reduceIte ]
      exact g2 rfl m1 m2 hnx hk hc
    · have m2 := lb' (by omega)
      clear lb lb'
      simp (disch := omega) only [go_sem, ↓reduceIte ]
      exact g2 rfl m1 m2 hnx hk hc
  · have m1 := la (by omega)
    clear la la'
    rcases (show y = 65535 ∨ (y ≠ 65535 ∧ c2 = 65535) ∨ (y ≠ 65535 ∧ c2 ≠ 65535 ∧ 65535 ≤ y + c2) ∨ (y ≠ 65535 ∧ c2 ≠ 65535 ∧ y + c2 < 65535) by omega) with hB | hB | hB | hB
    · have m2 := lb (by omega)
      clear lb lb'
      simp (disch := omega) only [go_sem, ↓reduceIte ]
      exact g2 rfl m1 m2 hnx hk hc
    · have m2 := lb (by omega)
      clear lb lb'
      simp (disch := omega) only [go_sem, ↓reduceIte ]
      exact g2 rfl m1 m2 hnx hk hc
    · have m2 := lb (by omega)
      clear lb lb'
      simp (disch := omega) only [go_sem, ↓reduceIte ]
      exact g2 rfl m1 m2 hnx hk hc
    · have m2 := lb' (by omega)
      clear lb lb'
      simp (disch := omega) only [go_sem, ↓reduceIte ]
      exact g2 rfl m1 m2 hnx hk hc
  · have m1 := la (by omega)
    clear la la'
    rcases (show y = 65535 ∨ (y ≠ 65535 ∧ c2 = 65535) ∨ (y ≠ 65535 ∧ c2 ≠ 65535 ∧ 65535 ≤ y + c2) ∨ (y ≠ 65535 ∧ c2 ≠ 65535 ∧ y + c2 < 65535) by omega) with hB | hB | hB | hB
    · have m2 := lb (by omega)
      clear lb lb'
      simp (disch := omega) only [go_sem, ↓reduceIte ]
      exact g2 rfl m1 m2 hnx hk hc
    · have m2 := lb (by omega)
      clear lb lb'
      simp (disch := omega) only [go_sem, ↓reduceIte ]
      exact g2 rfl m1 m2 hnx hk hc
    · have m2 := lb (by omega)
      clear lb lb'
      simp (disch := omega) only [go_sem, ↓reduceIte ]
      exact g2 rfl m1 m2 hnx hk hc
    · have m2 := lb' (by omega)
      clear lb lb'
      simp (disch := omega) only [go_sem, ↓reduceIte ]
      exact g2 rfl m1 m2 hnx hk hc
  · have m1 := la' (by omega)
    clear la la'
    rcases (show y = 65535 ∨ (y ≠ 65535 ∧ c2 = 65535) ∨ (y ≠ 65535 ∧ c2 ≠ 65535 ∧ 65535 ≤ y + c2) ∨ (y ≠ 65535 ∧ c2 ≠ 65535 ∧ y + c2 < 65535) by omega) with hB | hB | hB | hB
    · have m2 := lb (by omega)
      clear lb lb'
      simp (disch := omega) only [go_sem, ↓reduceIte ]
      exact g2 rfl m1 m2 hnx hk hc
    · have m2 := lb (by omega)
      clear lb lb'
      simp (disch := omega) only [go_sem, ↓reduceIte ]
      exact g2 rfl m1 m2 hnx hk hc
    · have m2 := lb (by omega)
      clear lb lb'
      simp (disch := omega) only [go_sem, ↓reduceIte ]
      exact g2 rfl m1 m2 hnx hk hc
    · have m2 := lb' (by omega)
      clear lb lb'
      simp (disch := omega) only [go_sem, ↓reduceIte ]
      exact g2 rfl m1 m2 hnx hk hc
set_option maxHeartbeats 1000000 in
set_option maxRecDepth 20000 in
theorem engineChooses_c {lo nx : Nat} {H : AH} (a b x y p s : Int) (ha : 0 ≤ a ∧ a ≤ 65535) (hb : 0 ≤ b ∧ b ≤ 65535) (hx : 0 ≤ x ∧ x ≤ 65535) (hy : 0 ≤ y ∧ y ≤ 65535) (hp : 0 ≤ p ∧ p ≤ 255) : ACalls Tryz.prog lo 3 #[.int .u16 a, .int .u16 b, .int .u16 x, .int .u16 y, .int .u8 p, .int .u16 s] H nx (fun v H' nx' => v = .bool true ∧ nx ≤ nx' ∧ Kp (fun _ => False) nx H H') := by
  refine ACalls.withLo fun hlo => ?_
  refine acalls_of_awp (c := chT0) L3 Tryz.func3 rfl (by kernel_rfl) ?_
  have hcode : chT0 = .seq (codeAt [.H] ((Tryz.f3.body).getD .skip)) (.seq (codeAt [.T, .H] ((Tryz.f3.body).getD .skip)) (.seq (codeAt [.T, .T, .H] ((Tryz.f3.body).getD .skip)) (.seq (codeAt [.T, .T, .T, .H] ((Tryz.f3.body).getD .skip)) (.seq (codeAt [.T, .T, .T, .T, .H] ((Tryz.f3.body).getD .skip)) (.seq (codeAt [.T, .T, .T, .T, .T, .H] ((Tryz.f3.body).getD .skip)) (.seq (codeAt [.T, .T, .T, .T, .T, .T, .H] ((Tryz.f3.body).getD .skip)) chT7)))))) := rfl
  simp only [Tryz.f3, Option.getD_some, codeAt_H, codeAt_T, codeAt_I, codeAt_L, codeAt_C, codeAt_P, codeAt_nil] at hcode
  rw [hcode]
  clear hcode
  simp (disch := omega) only [go_sem, ↓reduceIte ]
  refine awake17_c.mono fun v H1 nx1 _ ⟨hv, hx1, hk1⟩ => ?_
  subst hv
  simp (disch := omega) only [go_sem, ↓reduceIte ]
  refine (met17_c a b).mono fun v H2 nx2 _ ⟨q, y2, col, hv, st⟩ => ?_
  subst hv
  have hx2 := st.le
  have k2 : Kp (fun _ => False) nx H H2 := hk1.trans (U := fun _ => False) st.kp0 (by omega) (fun _ _ h => h) (fun _ _ h => h)
  have o0 := OneE.start a b p ha hb
  simp (disch := omega) only [go_sem, ↓reduceIte ]
  refine (update17_c p s x hp.1 hp.2).mono fun v H3 nx3 _ ⟨hv, hx3, hk3⟩ => ?_
  subst hv
  unfold Prt.cells
  simp (disch := omega) only [go_sem, ↓reduceIte ]
  refine buildSQ_all (n := 1) [.agg #[.int .u8 3, .int .u64 0, .int .i64 3, .int .u32 (pfxA p), .int .u8 (pfxN p), .int .u16 s, .int .u16 x]] sl34 zero32 (by omega) (by omega) rfl (by simp [cells_agg]) fun f hf => ?_
  have hlit := pt_lit H3 f 32 (updP p s x)
  have s4 := ((EngS.refl st.a).still hk3 hx3).still (nx2 := f + 1) (one_part H3 f (updP p s x) nx3 hf) (by omega)
  simp (disch := omega) only [go_sem, ↓reduceIte ]
  refine (hearUpd_c (fr := 1) (x := updP p s x) s4.a hlit (fun c hc => Classical.byContradiction fun hz => by have := st.a.k.rng c hz; omega) (upd_ok hp.1 hp.2) rfl (by omega) 2 (by omega) (by rw [o0.st]; omega) o0.hok (by omega)).mono fun v H5 nx5 _ ⟨hv, y5, col5, s5⟩ => ?_
  subst hv
  have o1 := o0.hear1 hp.1 hp.2 (by omega) (s := s) hx 2
  generalize hearE noRq 1 0 2 [updP p s x] (metE a b 2) = e1 at s5 o1
  have st5 := (st.trans s4).trans s5
  have hx5 := s5.le
  simp (disch := omega) only [go_sem, ↓reduceIte ]
  refine (update17_c p s y hp.1 hp.2).mono fun v H6 nx6 _ ⟨hv, hx6, hk6⟩ => ?_
  subst hv
  unfold Prt.cells
  simp (disch := omega) only [go_sem, ↓reduceIte ]
  refine buildSQ_all (n := 1) [.agg #[.int .u8 3, .int .u64 0, .int .i64 3, .int .u32 (pfxA p), .int .u8 (pfxN p), .int .u16 s, .int .u16 y]] sl34 zero32 (by omega) (by omega) rfl (by simp [cells_agg]) fun f2 hf2 => ?_
  have hlit2 := pt_lit H6 f2 32 (updP p s y)
  have s7 := ((EngS.refl s5.a).still hk6 hx6).still (nx2 := f2 + 1) (one_part H6 f2 (updP p s y) nx6 hf2) (by omega)
  simp (disch := omega) only [go_sem, ↓reduceIte ]
  refine (hearUpd_c (fr := 2) (x := updP p s y) s7.a hlit2 (fun c hc => Classical.byContradiction fun hz => by have := s5.a.k.rng c hz; omega) (upd_ok hp.1 hp.2) rfl (by omega) 2 (by omega) (by rw [o1.st]; omega) o1.hok (by omega)).mono fun v H8 nx8 _ ⟨hv, y8, col8, s8⟩ => ?_
  subst hv
  have o2 := o1.hear2 hp.1 hp.2 (by omega) (s := s) hy 2
  generalize hearE noRq 2 0 2 [updP p s y] e1 = e2 at s8 o2
  have st8 := (st5.trans s7).trans s8
  have hx8 := s8.le
  simp (disch := omega) only [go_sem, ↓reduceIte ]
  refine (eselect_c s8.a o2.pre).mono fun v H9 nx9 _ ⟨e3, L, ks, es1, es2, ts', tb, d, l2, y9, col9, own9, hse, s9, hsl, how, hko⟩ => ?_
  obtain ⟨o3, hroute, _⟩ := o2.sel hp.1 hp.2 (by omega) hse
  have hone := hsl.one
  have hx9 := s9.le
  have st9 := st8.trans s9
  simp (disch := omega) only [go_sem, ↓reduceIte , hone]
  refine (pfx_c p hp.1 hp.2 _ _).mono fun v H10 nx10 _ ⟨hv, hx10, hk10⟩ => ?_
  subst hv
  have s10 := (EngS.refl s9.a).still hk10 hx10
  simp (disch := omega) only [go_sem, ↓reduceIte ]
  refine (eroute_c s10.a (by have := o3.pre.sl; omega) (pfxA p) (pfxN p)).mono fun v H11 nx11 _ ⟨hx11, hk11, hv⟩ => ?_
  subst hv
  rw [hroute]
  generalize hW : wayE e2 (pfxA p) (pfxN p) _ _ = W at hroute ⊢
  unfold Rt.cells
  simp (disch := omega) only [go_sem, ↓reduceIte ]
  intro b14 hb14
  have hWp : W = pick2 (wayT (pfxA p) (pfxN p) 1 s x (max a 1)) (wayT (pfxA p) (pfxN p) 2 s y (max b 1)) := by
    rw [← hW, o2.way, way_t (t := tldOf 1 (updP p s x) 2) (c := max a 1) 1 (by omega) (by rfl) o2.cost1 (by simp [feasM]), way_t (t := tldOf 2 (updP p s y) 2) (c := max b 1) 2 (by omega) (by rfl) o2.cost2 (by simp [feasM])]
    rfl
  simp (disch := omega) only [go_sem, ↓reduceIte ]
  have k11 : Kp (fun _ => False) nx H H11 := (hk1.trans (U := fun _ => False) st9.kp0 (by omega) (fun _ _ h => h) (fun _ _ h => h)).trans (U := fun _ => False) (hk10.trans (U := fun _ => False) hk11 hx10 (fun _ _ h => h) (fun _ _ h => h)) (by have := st9.le; omega) (fun _ _ h => h) (fun _ _ h => h)
  have hx11' : nx ≤ nx11 := by have := st9.le; omega
  refine choose_tail (o := W) ha hb hx hy hp (by omega) (k11.trans (U := fun _ => False) (nx' := nx11) (show Kp (fun _ => False) nx11 H11 _ from (by repeat first | exact Kp.refl _ _ _ | refine Kp.dropT ?_ (.inl (by omega)) | refine Kp.put ?_ (.inl (by omega)) | refine Kp.new ?_ (by omega) | refine Kp.put ?_ (.inr (by omega)) | refine Kp.newO ?_ (by omega) | refine Kp.setO ?_ (.inl (by omega)) | refine Kp.setO ?_ (.inr (by omega)) | refine Kp.trans0 ?_ (by assumption) (by omega) | refine Kp.transS ?_ (by assumption) (by omega) (fun b hb hT => by first | omega | (dsimp only at hT ⊢; omega) | (simp only at hT ⊢; omega))) ) hx11' (fun _ _ h => h) (fun _ _ h => h)) hWp ?_
  generalize W.getD rt0 = r
  simp (disch := omega) only [go_sem, ↓reduceIte , Rt.cells]
end Go.Proofs.YtngnbafididkcaaGreat
