/- EngineSwitches: in our own logic. -/
import Derived.Test.YtngnbafididkcaaGreatN30
namespace Go.Proofs.YtngnbafididkcaaGreat
open Go.RowKit
set_option linter.unusedSimpArgs false

noncomputable def swT0 : Code := ((Tryz.f5.body).getD .skip)
noncomputable def swT14 : Code := codeAt [.T, .T, .T, .T, .T, .T, .T, .T, .T, .T, .T, .T, .T, .T] ((Tryz.f5.body).getD .skip)
noncomputable def swT16 : Code := codeAt [.T, .T, .T, .T, .T, .T, .T, .T, .T, .T, .T, .T, .T, .T, .T, .T] ((Tryz.f5.body).getD .skip)
set_option maxHeartbeats 1000000 in
set_option maxRecDepth 20000 in
theorem switch_end {lo nx nx0 : Nat} {H H0 : AH} {far near v2 : Int} {b10 b12 b14 : Nat} (hf : 0 ≤ far ∧ far ≤ 30000) (hn : 0 ≤ near ∧ near ≤ far) (hnx : nx0 ≤ nx) (hk : Kp (fun _ => False) nx0 H0 H)
    (c10v : H.c b10 2 = some (.int .i64 1)) (c10m : H.c b10 3 = some (.int .u16 (far + 96))) (c12v : H.c b12 2 = some (.int .i64 v2)) (c12m : H.c b12 3 = some (.int .u16 (near + 96))) (c14v : H.c b14 2 = some (.int .i64 1)) (c14m : H.c b14 3 = some (.int .u16 (far + 96))) :
    awp Tryz.prog lo L5 swT16 (retQ Tryz.prog Tryz.f5 fun v H' nx' => v = .bool true ∧ nx0 ≤ nx' ∧ Kp (fun _ => False) nx0 H0 H') [(1, .int .u16 far), (2, .int .u16 near), (10, .pointer (some ⟨b10, 0, none⟩)), (12, .pointer (some ⟨b12, 0, none⟩)), (14, .pointer (some ⟨b14, 0, none⟩)), (15, .bool true), (16, .int .i64 v2), (17, .bool true)] H nx := by
  have hcode : swT16 = codeAt [.T, .T, .T, .T, .T, .T, .T, .T, .T, .T, .T, .T, .T, .T, .T, .T] ((Tryz.f5.body).getD .skip) := rfl
  simp only [Tryz.f5, Option.getD_some, codeAt_H, codeAt_T, codeAt_I, codeAt_L, codeAt_C, codeAt_P, codeAt_nil] at hcode
  rw [hcode]
  clear hcode
  simp (disch := omega) only [go_sem, ↓reduceIte , c10v, c10m, c12v, c12m, c14v, c14m]
  exact ⟨hnx, hk⟩
set_option maxHeartbeats 1000000 in
set_option maxRecDepth 20000 in
theorem switch_gone {lo nx nx0 : Nat} {H H0 : AH} {far near v2 : Int} {b10 b12 b14 : Nat} (hf : 0 ≤ far ∧ far ≤ 30000) (hn : 0 ≤ near ∧ near ≤ far) (hnx : nx0 ≤ nx) (hk : Kp (fun _ => False) nx0 H0 H)
    (c10v : H.c b10 2 = some (.int .i64 1)) (c10m : H.c b10 3 = some (.int .u16 (far + 96))) (c12v : H.c b12 2 = some (.int .i64 v2)) (c12m : H.c b12 3 = some (.int .u16 (near + 96)))  :
    awp Tryz.prog lo L5 swT16 (retQ Tryz.prog Tryz.f5 fun v H' nx' => v = .bool true ∧ nx0 ≤ nx' ∧ Kp (fun _ => False) nx0 H0 H') [(1, .int .u16 far), (2, .int .u16 near), (10, .pointer (some ⟨b10, 0, none⟩)), (12, .pointer (some ⟨b12, 0, none⟩)), (14, .pointer (some ⟨b14, 0, none⟩)), (15, .bool false), (16, .int .i64 v2), (17, .bool false)] H nx := by
  have hcode : swT16 = codeAt [.T, .T, .T, .T, .T, .T, .T, .T, .T, .T, .T, .T, .T, .T, .T, .T] ((Tryz.f5.body).getD .skip) := rfl
  simp only [Tryz.f5, Option.getD_some, codeAt_H, codeAt_T, codeAt_I, codeAt_L, codeAt_C, codeAt_P, codeAt_nil] at hcode
  rw [hcode]
  clear hcode
  simp (disch := omega) only [go_sem, ↓reduceIte , c10v, c10m, c12v, c12m]
  exact ⟨hnx, hk⟩
set_option maxHeartbeats 1000000 in
set_option maxRecDepth 20000 in
theorem switch_tail {lo nx nx0 : Nat} {H H0 : AH} {far near v3 m3 : Int} {b10 b12 b14 : Nat} {ok3 : Bool} (hf : 0 ≤ far ∧ far ≤ 30000) (hn : 0 ≤ near ∧ near ≤ far) (hnx : nx0 ≤ nx) (hk : Kp (fun _ => False) nx0 H0 H)
    (c10v : H.c b10 2 = some (.int .i64 1)) (c10m : H.c b10 3 = some (.int .u16 (far + 96))) (c12v : H.c b12 2 = some (.int .i64 (if near = far then 1 else 2))) (c12m : H.c b12 3 = some (.int .u16 (near + 96))) (c14v : H.c b14 2 = some (.int .i64 v3)) (c14m : H.c b14 3 = some (.int .u16 m3))
    (h3 : (far < near + 96 ∧ ok3 = true ∧ v3 = 1 ∧ m3 = far + 96) ∨ (¬ far < near + 96 ∧ ok3 = false)) :
    awp Tryz.prog lo L5 swT14 (retQ Tryz.prog Tryz.f5 fun v H' nx' => v = .bool true ∧ nx0 ≤ nx' ∧ Kp (fun _ => False) nx0 H0 H') [(1, .int .u16 far), (2, .int .u16 near), (10, .pointer (some ⟨b10, 0, none⟩)), (12, .pointer (some ⟨b12, 0, none⟩)), (14, .pointer (some ⟨b14, 0, none⟩)), (15, .bool ok3), (16, .int .i64 2)] H nx := by
  have hcode : swT14 = .seq (codeAt [.T, .T, .T, .T, .T, .T, .T, .T, .T, .T, .T, .T, .T, .T, .H] ((Tryz.f5.body).getD .skip)) (.seq (codeAt [.T, .T, .T, .T, .T, .T, .T, .T, .T, .T, .T, .T, .T, .T, .T, .H] ((Tryz.f5.body).getD .skip)) swT16) := rfl
  simp only [Tryz.f5, Option.getD_some, codeAt_H, codeAt_T, codeAt_I, codeAt_L, codeAt_C, codeAt_P, codeAt_nil] at hcode
  rw [hcode]
  clear hcode
  by_cases hnf : near = far
  · rw [if_pos hnf] at c12v
    rcases h3 with ⟨h1, h2, h4, h5⟩ | ⟨h1, _⟩
    · subst h2; subst h4; subst h5
      simp (disch := omega) only [go_sem, ↓reduceIte ]
      exact switch_end hf hn hnx hk c10v c10m c12v c12m c14v c14m
    · omega
  · rw [if_neg hnf] at c12v
    rcases h3 with ⟨h1, h2, h4, h5⟩ | ⟨h1, h2⟩
    · subst h2; subst h4; subst h5
      simp (disch := omega) only [go_sem, ↓reduceIte ]
      exact switch_end hf hn hnx hk c10v c10m c12v c12m c14v c14m
    · subst h2
      simp (disch := omega) only [go_sem, ↓reduceIte ]
      exact switch_gone hf hn hnx hk c10v c10m c12v c12m
set_option maxHeartbeats 4000000 in
set_option maxRecDepth 20000 in
theorem engineSwitches_c {lo nx : Nat} {H : AH} (p far near0 s : Int) (hp : 0 ≤ p ∧ p ≤ 255) (hfar : 0 ≤ far ∧ far ≤ 65535) (hnear : 0 ≤ near0 ∧ near0 ≤ 65535) : ACalls Tryz.prog lo 5 #[.int .u8 p, .int .u16 far, .int .u16 near0, .int .u16 s] H nx (fun v H' nx' => v = .bool true ∧ nx ≤ nx' ∧ Kp (fun _ => False) nx H H') := by
  refine ACalls.withLo fun hlo => ?_
  refine acalls_of_awp (c := swT0) L5 Tryz.func5 rfl (by kernel_rfl) ?_
  have hcode : swT0 = .seq (codeAt [.H] ((Tryz.f5.body).getD .skip)) (.seq (codeAt [.T, .H] ((Tryz.f5.body).getD .skip)) (.seq (codeAt [.T, .T, .H] ((Tryz.f5.body).getD .skip)) (.seq (codeAt [.T, .T, .T, .H] ((Tryz.f5.body).getD .skip)) (.seq (codeAt [.T, .T, .T, .T, .H] ((Tryz.f5.body).getD .skip)) (.seq (codeAt [.T, .T, .T, .T, .T, .H] ((Tryz.f5.body).getD .skip)) (.seq (codeAt [.T, .T, .T, .T, .T, .T, .H] ((Tryz.f5.body).getD .skip)) (.seq (codeAt [.T, .T, .T, .T, .T, .T, .T, .H] ((Tryz.f5.body).getD .skip)) (.seq (codeAt [.T, .T, .T, .T, .T, .T, .T, .T, .H] ((Tryz.f5.body).getD .skip)) (.seq (codeAt [.T, .T, .T, .T, .T, .T, .T, .T, .T, .H] ((Tryz.f5.body).getD .skip)) (.seq (codeAt [.T, .T, .T, .T, .T, .T, .T, .T, .T, .T, .H] ((Tryz.f5.body).getD .skip)) (.seq (codeAt [.T, .T, .T, .T, .T, .T, .T, .T, .T, .T, .T, .H] ((Tryz.f5.body).getD .skip)) (.seq (codeAt [.T, .T, .T, .T, .T, .T, .T, .T, .T, .T, .T, .T, .H] ((Tryz.f5.body).getD .skip)) (.seq (codeAt [.T, .T, .T, .T, .T, .T, .T, .T, .T, .T, .T, .T, .T, .H] ((Tryz.f5.body).getD .skip)) swT14))))))))))))) := rfl
  simp only [Tryz.f5, Option.getD_some, codeAt_H, codeAt_T, codeAt_I, codeAt_L, codeAt_C, codeAt_P, codeAt_nil] at hcode
  rw [hcode]
  clear hcode
  simp (disch := omega) only [go_sem, ↓reduceIte ]
  refine awake17_c.mono fun v H1 nx1 _ ⟨hv, hx1, hk1⟩ => ?_
  subst hv
  by_cases hbig : 30000 < far
  · simp (disch := omega) only [go_sem, ↓reduceIte ]
    refine awake17_c.mono fun v H2 nx2 _ ⟨hv, hx2, hk2⟩ => ?_
    subst hv
    simp (disch := omega) only [go_sem, ↓reduceIte ]
    exact ⟨by omega, hk1.trans (U := fun _ => False) hk2 (by omega) (fun _ _ h => h) (fun _ _ h => h)⟩
  have hmod : 0 ≤ near0 % (far + 1) ∧ near0 % (far + 1) ≤ far := ⟨Int.emod_nonneg _ (by omega), by have := Int.emod_lt_of_pos near0 (show 0 < far + 1 by omega); omega⟩
  simp (disch := omega) only [go_sem, ↓reduceIte ]
  generalize near0 % (far + 1) = near at hmod ⊢
  refine (met17_c 96 96).mono fun v H2 nx2 _ ⟨q, y2, col, hv, st⟩ => ?_
  subst hv
  have hx2 := st.le
  have o0 := OneE.start 96 96 p (by omega) (by omega)
  have hnr : 0 ≤ near ∧ near ≤ 65535 := by omega
  have h65 : (0 : Int) ≤ 65535 ∧ (65535 : Int) ≤ 65535 := by omega
  simp (disch := omega) only [go_sem, ↓reduceIte ]
  refine (update17_c p s far hp.1 hp.2).mono fun v A1 na1 _ ⟨hv, ha1, ka1⟩ => ?_
  subst hv
  unfold Prt.cells
  simp (disch := omega) only [go_sem, ↓reduceIte ]
  refine buildSQ_all (n := 1) [.agg #[.int .u8 3, .int .u64 0, .int .i64 3, .int .u32 (pfxA p), .int .u8 (pfxN p), .int .u16 s, .int .u16 far]] sl34 zero32 (by omega) (by omega) rfl (by simp [cells_agg]) fun f1 hf1 => ?_
  have hlit1 := pt_lit A1 f1 32 (updP p s far)
  have sa1 := ((EngS.refl st.a).still ka1 ha1).still (nx2 := f1 + 1) (part_fresh A1 f1 (updP p s far) na1 hf1) (by omega)
  simp (disch := omega) only [go_sem, ↓reduceIte ]
  refine (hearUpd_c (fr := 1) (x := updP p s far) sa1.a hlit1 (fun c hc => Classical.byContradiction fun hz => by have := st.a.k.rng c hz; omega) (upd_ok hp.1 hp.2) rfl (by omega) 2 (by omega) (by rw [o0.st]; omega) o0.hok (by omega)).mono fun v B1 nb1 _ ⟨hv, yb1, cb1, sb1⟩ => ?_
  subst hv
  have o1 := o0.hear1 hp.1 hp.2 (by omega) (s := s) hfar 2
  generalize hearE noRq 1 0 2 [updP p s far] (metE 96 96 2) = e1 at sb1 o1
  have hb1 := sb1.le
  simp (disch := omega) only [go_sem, ↓reduceIte ]
  refine (eselect_c sb1.a o1.pre).mono fun v A2 na2 _ ⟨e2, L2, ks2, es12, es22, ts2, tb2, d2, l22, y2, c2, ow2, hse2, sa2, hsl2, how2, hko2⟩ => ?_
  obtain ⟨o2, hr2, _⟩ := o1.sel hp.1 hp.2 (by omega) hse2
  have hw2 := sw_way1 o1 (by omega)
  rw [hw2] at o2 hr2
  have o2 : OneE 96 96 e2 p (tOpt (tldOf 1 (updP p s far) 2)) none (some ⟨pfxA p, pfxN p, s, far + 96⟩) 1 := o2
  have hn2 := hsl2.one
  have ha2 := sa2.le
  simp (disch := omega) only [go_sem, ↓reduceIte , hn2]
  refine (pfx_c p hp.1 hp.2 _ _).mono fun v A3 na3 _ ⟨hv, ha3, ka3⟩ => ?_
  subst hv
  have sa3 := (EngS.refl sa2.a).still ka3 ha3
  simp (disch := omega) only [go_sem, ↓reduceIte ]
  refine (eroute_c sa3.a (by have := o2.pre.sl; omega) (pfxA p) (pfxN p)).mono fun v B3 nb3 _ ⟨hb3, kb3, hv⟩ => ?_
  subst hv
  rw [hr2]
  have sb3 := (EngS.refl sa3.a).still kb3 hb3
  simp only [Option.getD_some, Option.isSome_some]
  unfold Rt.cells
  simp (disch := omega) only [go_sem, ↓reduceIte ]
  intro b10 hlb10
  simp (disch := omega) only [go_sem, ↓reduceIte ]
  have kd4 : Kp (fun _ => False) nb3 B3 (((((B3.new b10 #[.int .u32 0, .int .u8 0, .int .i64 0, .int .u16 0, .int .u16 0] 40).put b10 0 (.int .u32 (pfxA p))).put b10 1 (.int .u8 (pfxN p))).put b10 (1 + 1) (.int .i64 1)).put b10 (1 + 1 + 1) (.int .u16 (far + 96)) |>.put b10 (1 + 1 + 1 + 1) (.int .u16 s)) := (by repeat first | exact Kp.refl _ _ _ | refine Kp.dropT ?_ (.inl (by omega)) | refine Kp.put ?_ (.inl (by omega)) | refine Kp.new ?_ (by omega) | refine Kp.put ?_ (.inr (by omega)) | refine Kp.newO ?_ (by omega) | refine Kp.setO ?_ (.inl (by omega)) | refine Kp.setO ?_ (.inr (by omega)) | refine Kp.trans0 ?_ (by assumption) (by omega) | refine Kp.transS ?_ (by assumption) (by omega) (fun b hb hT => by first | omega | (dsimp only at hT ⊢; omega) | (simp only at hT ⊢; omega))) 
  have b10v : (((((B3.new b10 #[.int .u32 0, .int .u8 0, .int .i64 0, .int .u16 0, .int .u16 0] 40).put b10 0 (.int .u32 (pfxA p))).put b10 1 (.int .u8 (pfxN p))).put b10 (1 + 1) (.int .i64 1)).put b10 (1 + 1 + 1) (.int .u16 (far + 96)) |>.put b10 (1 + 1 + 1 + 1) (.int .u16 s)).c b10 2 = some (.int .i64 1) := by simp (disch := omega) only [go_sem, ↓reduceIte ]
  have b10m : (((((B3.new b10 #[.int .u32 0, .int .u8 0, .int .i64 0, .int .u16 0, .int .u16 0] 40).put b10 0 (.int .u32 (pfxA p))).put b10 1 (.int .u8 (pfxN p))).put b10 (1 + 1) (.int .i64 1)).put b10 (1 + 1 + 1) (.int .u16 (far + 96)) |>.put b10 (1 + 1 + 1 + 1) (.int .u16 s)).c b10 3 = some (.int .u16 (far + 96)) := by simp (disch := omega) only [go_sem, ↓reduceIte ]
  have b100 : ∀ (hc : c2 b10 ≠ 0), False := fun hc => by have := sb3.a.k.rng b10 hc; omega
  have s4 := (EngS.refl sb3.a).still (nx2 := b10 + 1) kd4 (by omega)
  generalize hM4 : (((((B3.new b10 #[.int .u32 0, .int .u8 0, .int .i64 0, .int .u16 0, .int .u16 0] 40).put b10 0 (.int .u32 (pfxA p))).put b10 1 (.int .u8 (pfxN p))).put b10 (1 + 1) (.int .i64 1)).put b10 (1 + 1 + 1) (.int .u16 (far + 96)) |>.put b10 (1 + 1 + 1 + 1) (.int .u16 s)) = M4 at kd4 b10v b10m s4 ⊢
  refine (update17_c p s near hp.1 hp.2).mono fun v A5 na5 _ ⟨hv, ha5, ka5⟩ => ?_
  subst hv
  unfold Prt.cells
  simp (disch := omega) only [go_sem, ↓reduceIte ]
  refine buildSQ_all (n := 1) [.agg #[.int .u8 3, .int .u64 0, .int .i64 3, .int .u32 (pfxA p), .int .u8 (pfxN p), .int .u16 s, .int .u16 near]] sl34 zero32 (by omega) (by omega) rfl (by simp [cells_agg]) fun f5 hf5 => ?_
  have hlit5 := pt_lit A5 f5 32 (updP p s near)
  have sa5 := ((EngS.refl s4.a).still ka5 ha5).still (nx2 := f5 + 1) (part_fresh A5 f5 (updP p s near) na5 hf5) (by omega)
  simp (disch := omega) only [go_sem, ↓reduceIte ]
  refine (hearUpd_c (fr := 2) (x := updP p s near) sa5.a hlit5 (fun c hc => Classical.byContradiction fun hz => by have := s4.a.k.rng c hz; omega) (upd_ok hp.1 hp.2) rfl (by omega) 2 (by omega) (by rw [o2.st]; omega) o2.hok (by omega)).mono fun v B5 nb5 _ ⟨hv, yb5, cb5, sb5⟩ => ?_
  subst hv
  have o5 := o2.hear2 hp.1 hp.2 (by omega) (s := s) hnr 2
  generalize hearE noRq 2 0 2 [updP p s near] e2 = e5 at sb5 o5
  have hb5 := sb5.le
  simp (disch := omega) only [go_sem, ↓reduceIte ]
  refine (eselect_c sb5.a o5.pre).mono fun v A6 na6 _ ⟨e6, L6, ks6, es16, es26, ts6, tb6, d6, l26, y6, c6, ow6, hse6, sa6, hsl6, how6, hko6⟩ => ?_
  obtain ⟨o6, hr6, _⟩ := o5.sel hp.1 hp.2 (by omega) hse6
  obtain ⟨hw6, hm6⟩ := sw_way2 o5 (by omega) (by omega)
  rw [hw6, hm6] at o6
  rw [hw6] at hr6
  have hn6 := hsl6.one
  have ha6 := sa6.le
  simp (disch := omega) only [go_sem, ↓reduceIte , hn6]
  refine (pfx_c p hp.1 hp.2 _ _).mono fun v A7 na7 _ ⟨hv, ha7, ka7⟩ => ?_
  subst hv
  have sa7 := (EngS.refl sa6.a).still ka7 ha7
  simp (disch := omega) only [go_sem, ↓reduceIte ]
  refine (eroute_c sa7.a (by have := o6.pre.sl; omega) (pfxA p) (pfxN p)).mono fun v B7 nb7 _ ⟨hb7, kb7, hv⟩ => ?_
  subst hv
  rw [hr6]
  have sb7 := (EngS.refl sa7.a).still kb7 hb7
  simp only [Option.getD_some, Option.isSome_some]
  unfold Rt.cells
  simp (disch := omega) only [go_sem, ↓reduceIte ]
  intro b12 hlb12
  simp (disch := omega) only [go_sem, ↓reduceIte ]
  have kd8 : Kp (fun _ => False) nb7 B7 (((((B7.new b12 #[.int .u32 0, .int .u8 0, .int .i64 0, .int .u16 0, .int .u16 0] 40).put b12 0 (.int .u32 (pfxA p))).put b12 1 (.int .u8 (pfxN p))).put b12 (1 + 1) (.int .i64 (if near = far then 1 else 2))).put b12 (1 + 1 + 1) (.int .u16 (near + 96)) |>.put b12 (1 + 1 + 1 + 1) (.int .u16 s)) := (by repeat first | exact Kp.refl _ _ _ | refine Kp.dropT ?_ (.inl (by omega)) | refine Kp.put ?_ (.inl (by omega)) | refine Kp.new ?_ (by omega) | refine Kp.put ?_ (.inr (by omega)) | refine Kp.newO ?_ (by omega) | refine Kp.setO ?_ (.inl (by omega)) | refine Kp.setO ?_ (.inr (by omega)) | refine Kp.trans0 ?_ (by assumption) (by omega) | refine Kp.transS ?_ (by assumption) (by omega) (fun b hb hT => by first | omega | (dsimp only at hT ⊢; omega) | (simp only at hT ⊢; omega))) 
  have b12v : (((((B7.new b12 #[.int .u32 0, .int .u8 0, .int .i64 0, .int .u16 0, .int .u16 0] 40).put b12 0 (.int .u32 (pfxA p))).put b12 1 (.int .u8 (pfxN p))).put b12 (1 + 1) (.int .i64 (if near = far then 1 else 2))).put b12 (1 + 1 + 1) (.int .u16 (near + 96)) |>.put b12 (1 + 1 + 1 + 1) (.int .u16 s)).c b12 2 = some (.int .i64 (if near = far then 1 else 2)) := by simp (disch := omega) only [go_sem, ↓reduceIte ]
  have b12m : (((((B7.new b12 #[.int .u32 0, .int .u8 0, .int .i64 0, .int .u16 0, .int .u16 0] 40).put b12 0 (.int .u32 (pfxA p))).put b12 1 (.int .u8 (pfxN p))).put b12 (1 + 1) (.int .i64 (if near = far then 1 else 2))).put b12 (1 + 1 + 1) (.int .u16 (near + 96)) |>.put b12 (1 + 1 + 1 + 1) (.int .u16 s)).c b12 3 = some (.int .u16 (near + 96)) := by simp (disch := omega) only [go_sem, ↓reduceIte ]
  have b120 : ∀ (hc : c6 b12 ≠ 0), False := fun hc => by have := sb7.a.k.rng b12 hc; omega
  have s8 := (EngS.refl sb7.a).still (nx2 := b12 + 1) kd8 (by omega)
  generalize hM8 : (((((B7.new b12 #[.int .u32 0, .int .u8 0, .int .i64 0, .int .u16 0, .int .u16 0] 40).put b12 0 (.int .u32 (pfxA p))).put b12 1 (.int .u8 (pfxN p))).put b12 (1 + 1) (.int .i64 (if near = far then 1 else 2))).put b12 (1 + 1 + 1) (.int .u16 (near + 96)) |>.put b12 (1 + 1 + 1 + 1) (.int .u16 s)) = M8 at kd8 b12v b12m s8 ⊢
  refine (update17_c p s 65535 hp.1 hp.2).mono fun v A9 na9 _ ⟨hv, ha9, ka9⟩ => ?_
  subst hv
  unfold Prt.cells
  simp (disch := omega) only [go_sem, ↓reduceIte ]
  refine buildSQ_all (n := 1) [.agg #[.int .u8 3, .int .u64 0, .int .i64 3, .int .u32 (pfxA p), .int .u8 (pfxN p), .int .u16 s, .int .u16 65535]] sl34 zero32 (by omega) (by omega) rfl (by simp [cells_agg]) fun f9 hf9 => ?_
  have hlit9 := pt_lit A9 f9 32 (updP p s 65535)
  have sa9 := ((EngS.refl s8.a).still ka9 ha9).still (nx2 := f9 + 1) (part_fresh A9 f9 (updP p s 65535) na9 hf9) (by omega)
  simp (disch := omega) only [go_sem, ↓reduceIte ]
  refine (hearUpd_c (fr := 2) (x := updP p s 65535) sa9.a hlit9 (fun c hc => Classical.byContradiction fun hz => by have := s8.a.k.rng c hz; omega) (upd_ok hp.1 hp.2) rfl (by omega) 2 (by omega) (by rw [o6.st]; omega) o6.hok (by omega)).mono fun v B9 nb9 _ ⟨hv, yb9, cb9, sb9⟩ => ?_
  subst hv
  have o9 := o6.hear2 hp.1 hp.2 (by omega) (s := s) h65 2
  generalize hearE noRq 2 0 2 [updP p s 65535] e6 = e9 at sb9 o9
  have hb9 := sb9.le
  simp (disch := omega) only [go_sem, ↓reduceIte ]
  refine (eselect_c sb9.a o9.pre).mono fun v A10 na10 _ ⟨e10, L10, ks10, es110, es210, ts10, tb10, d10, l210, y10, c10, ow10, hse10, sa10, hsl10, how10, hko10⟩ => ?_
  obtain ⟨o10, hr10, _⟩ := o9.sel hp.1 hp.2 (by omega) hse10
  have hw10 := sw_way3 o9 (by omega)
  rw [hw10] at hr10
  generalize hW3 : (if far < near + 96 then some (⟨pfxA p, pfxN p, 1, far + 96, s⟩ : Rt) else none) = W3 at hr10
  have hn10 := hsl10.one
  have ha10 := sa10.le
  simp (disch := omega) only [go_sem, ↓reduceIte , hn10]
  refine (pfx_c p hp.1 hp.2 _ _).mono fun v A11 na11 _ ⟨hv, ha11, ka11⟩ => ?_
  subst hv
  have sa11 := (EngS.refl sa10.a).still ka11 ha11
  simp (disch := omega) only [go_sem, ↓reduceIte ]
  refine (eroute_c sa11.a (by have := o10.pre.sl; omega) (pfxA p) (pfxN p)).mono fun v B11 nb11 _ ⟨hb11, kb11, hv⟩ => ?_
  subst hv
  rw [hr10]
  have sb11 := (EngS.refl sa11.a).still kb11 hb11
  generalize hr3 : Option.getD W3 rt0 = r3
  generalize hk3 : Option.isSome W3 = ok3
  unfold Rt.cells
  simp (disch := omega) only [go_sem, ↓reduceIte ]
  intro b14 hlb14
  simp (disch := omega) only [go_sem, ↓reduceIte ]
  have kd12 : Kp (fun _ => False) nb11 B11 (((((B11.new b14 #[.int .u32 0, .int .u8 0, .int .i64 0, .int .u16 0, .int .u16 0] 40).put b14 0 (.int .u32 r3.addr)).put b14 1 (.int .u8 r3.len)).put b14 (1 + 1) (.int .i64 r3.via)).put b14 (1 + 1 + 1) (.int .u16 r3.metric) |>.put b14 (1 + 1 + 1 + 1) (.int .u16 r3.seq)) := (by repeat first | exact Kp.refl _ _ _ | refine Kp.dropT ?_ (.inl (by omega)) | refine Kp.put ?_ (.inl (by omega)) | refine Kp.new ?_ (by omega) | refine Kp.put ?_ (.inr (by omega)) | refine Kp.newO ?_ (by omega) | refine Kp.setO ?_ (.inl (by omega)) | refine Kp.setO ?_ (.inr (by omega)) | refine Kp.trans0 ?_ (by assumption) (by omega) | refine Kp.transS ?_ (by assumption) (by omega) (fun b hb hT => by first | omega | (dsimp only at hT ⊢; omega) | (simp only at hT ⊢; omega))) 
  have b14v : (((((B11.new b14 #[.int .u32 0, .int .u8 0, .int .i64 0, .int .u16 0, .int .u16 0] 40).put b14 0 (.int .u32 r3.addr)).put b14 1 (.int .u8 r3.len)).put b14 (1 + 1) (.int .i64 r3.via)).put b14 (1 + 1 + 1) (.int .u16 r3.metric) |>.put b14 (1 + 1 + 1 + 1) (.int .u16 r3.seq)).c b14 2 = some (.int .i64 r3.via) := by simp (disch := omega) only [go_sem, ↓reduceIte ]
  have b14m : (((((B11.new b14 #[.int .u32 0, .int .u8 0, .int .i64 0, .int .u16 0, .int .u16 0] 40).put b14 0 (.int .u32 r3.addr)).put b14 1 (.int .u8 r3.len)).put b14 (1 + 1) (.int .i64 r3.via)).put b14 (1 + 1 + 1) (.int .u16 r3.metric) |>.put b14 (1 + 1 + 1 + 1) (.int .u16 r3.seq)).c b14 3 = some (.int .u16 r3.metric) := by simp (disch := omega) only [go_sem, ↓reduceIte ]
  have b140 : ∀ (hc : c10 b14 ≠ 0), False := fun hc => by have := sb11.a.k.rng b14 hc; omega
  have s12 := (EngS.refl sb11.a).still (nx2 := b14 + 1) kd12 (by omega)
  generalize hM12 : (((((B11.new b14 #[.int .u32 0, .int .u8 0, .int .i64 0, .int .u16 0, .int .u16 0] 40).put b14 0 (.int .u32 r3.addr)).put b14 1 (.int .u8 r3.len)).put b14 (1 + 1) (.int .i64 r3.via)).put b14 (1 + 1 + 1) (.int .u16 r3.metric) |>.put b14 (1 + 1 + 1 + 1) (.int .u16 r3.seq)) = M12 at kd12 b14v b14m s12 ⊢
  have q1 := (((((((((((sa5.trans sb5).trans sa6).trans sa7).trans sb7).trans s8).trans sa9).trans sb9).trans sa10).trans sa11).trans sb11).trans s12)
  have q2 := (((((sa9.trans sb9).trans sa10).trans sa11).trans sb11).trans s12)
  have qa := ((((((((((((((((((st.trans sa1).trans sb1).trans sa2).trans sa3).trans sb3).trans s4).trans sa5).trans sb5).trans sa6).trans sa7).trans sb7).trans s8).trans sa9).trans sb9).trans sa10).trans sa11).trans sb11).trans s12)
  have ka : Kp (fun _ => False) nx H M12 := hk1.trans (U := fun _ => False) qa.kp0 (by omega) (fun _ _ h => h) (fun _ _ h => h)
  have hxa := qa.le
  refine switch_tail (b10 := b10) (b12 := b12) (b14 := b14) (v3 := r3.via) (m3 := r3.metric) (ok3 := ok3) (by omega) (by omega) (by omega) ka ?_ ?_ ?_ ?_ b14v b14m ?_
  · rw [q1.kp.cell b10 2 (by omega) (fun hc => b100 hc)]; exact b10v
  · rw [q1.kp.cell b10 3 (by omega) (fun hc => b100 hc)]; exact b10m
  · rw [q2.kp.cell b12 2 (by omega) (fun hc => b120 hc)]; exact b12v
  · rw [q2.kp.cell b12 3 (by omega) (fun hc => b120 hc)]; exact b12m
  · rw [← hr3, ← hk3, ← hW3]
    by_cases hl : far < near + 96
    · rw [if_pos hl]; exact .inl ⟨hl, rfl, rfl, rfl⟩
    · rw [if_neg hl]; exact .inr ⟨hl, rfl⟩
end Go.Proofs.YtngnbafididkcaaGreat
