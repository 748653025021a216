/- EngineAsks: in our own logic: whole. -/
import Derived.Test.YtngnbafididkcaaGreatN47
import Derived.Test.YtngnbafididkcaaGreatN45
namespace Go.Proofs.YtngnbafididkcaaGreat
open Go.RowKit
set_option linter.unusedSimpArgs false

noncomputable def akT0 : Code := ((Tryz.f9.body).getD .skip)
set_option maxHeartbeats 4000000 in
set_option maxRecDepth 20000 in
theorem engineAsks_c {lo nx : Nat} {H : AH} (x s p ask : Int) (hx : 0 ≤ x ∧ x ≤ 65535) (hs : 0 ≤ s ∧ s ≤ 65535) (hp : 0 ≤ p ∧ p ≤ 255) (hask : 0 ≤ ask ∧ ask ≤ 65535) : ACalls Tryz.prog lo 9 #[.int .u16 x, .int .u16 s, .int .u8 p, .int .u16 ask] H nx (fun v H' nx' => v = .bool true ∧ nx ≤ nx' ∧ Kp (fun _ => False) nx H H') := by
  refine ACalls.withLo fun hlo => ?_
  refine acalls_of_awp (c := akT0) L9 Tryz.func9 rfl (by kernel_rfl) ?_
  have hcode : akT0 = .seq (codeAt [.H] ((Tryz.f9.body).getD .skip)) (.seq (codeAt [.T, .H] ((Tryz.f9.body).getD .skip)) (.seq (codeAt [.T, .T, .H] ((Tryz.f9.body).getD .skip)) (.seq (codeAt [.T, .T, .T, .H] ((Tryz.f9.body).getD .skip)) (.seq (codeAt [.T, .T, .T, .T, .H] ((Tryz.f9.body).getD .skip)) (.seq (codeAt [.T, .T, .T, .T, .T, .H] ((Tryz.f9.body).getD .skip)) (.seq (codeAt [.T, .T, .T, .T, .T, .T, .H] ((Tryz.f9.body).getD .skip)) (.seq (codeAt [.T, .T, .T, .T, .T, .T, .T, .H] ((Tryz.f9.body).getD .skip)) (.seq (codeAt [.T, .T, .T, .T, .T, .T, .T, .T, .H] ((Tryz.f9.body).getD .skip)) (.seq (codeAt [.T, .T, .T, .T, .T, .T, .T, .T, .T, .H] ((Tryz.f9.body).getD .skip)) (.seq (.seq (codeAt [.T, .T, .T, .T, .T, .T, .T, .T, .T, .T, .H, .H] ((Tryz.f9.body).getD .skip)) (.block 0 akL)) akT11)))))))))) := rfl
  simp only [Tryz.f9, Option.getD_some, codeAt_H, codeAt_T, codeAt_I, codeAt_L, codeAt_C, codeAt_P, codeAt_nil] at hcode
  rw [hcode]
  clear hcode
  simp (disch := omega) only [go_sem, ↓reduceIte ]
  refine awake17_c.mono fun v H1 nx1 _ ⟨hv, hx1, hk1⟩ => ?_
  subst hv
  by_cases hbig : 60000 < x
  · simp (disch := omega) only [go_sem, ↓reduceIte ]
    refine awake17_c.mono fun v H2 nx2 _ ⟨hv, hx2, hk2⟩ => ?_
    subst hv
    simp (disch := omega) only [go_sem, ↓reduceIte ]
    exact ⟨by omega, hk1.trans (U := fun _ => False) hk2 (by omega) (fun _ _ h => h) (fun _ _ h => h)⟩
  simp (disch := omega) only [go_sem, ↓reduceIte ]
  refine (met17_c 96 96).mono fun v H2 nx2 _ ⟨q, y2, col, hv, st⟩ => ?_
  subst hv
  have hx2 := st.le
  have o0 := OneE.start 96 96 p (by omega) (by omega)
  have hxx : 0 ≤ x + 97 ∧ x + 97 ≤ 65535 := by omega
  simp (disch := omega) only [go_sem, ↓reduceIte ]
  refine (update17_c p s x hp.1 hp.2).mono fun v A1 na1 _ ⟨hv, ha1, ka1⟩ => ?_
  subst hv
  unfold Prt.cells
  simp (disch := omega) only [go_sem, ↓reduceIte ]
  refine buildSQ_all (n := 1) [.agg #[.int .u8 3, .int .u64 0, .int .i64 3, .int .u32 (pfxA p), .int .u8 (pfxN p), .int .u16 s, .int .u16 x]] sl34 zero32 (by omega) (by omega) rfl (by simp [cells_agg]) fun f1 hf1 => ?_
  have hlit1 := pt_lit A1 f1 32 (updP p s x)
  have sa1 := ((EngS.refl st.a).still ka1 ha1).still (nx2 := f1 + 1) (part_fresh A1 f1 (updP p s x) na1 hf1) (by omega)
  simp (disch := omega) only [go_sem, ↓reduceIte ]
  refine (hearUpd_c (fr := 1) (x := updP p s x) sa1.a hlit1 (fun c hc => Classical.byContradiction fun hz => by have := st.a.k.rng c hz; omega) (upd_ok hp.1 hp.2) rfl (by omega) 2 (by omega) (by rw [o0.st]; omega) o0.hok (by omega)).mono fun v B1 nb1 _ ⟨hv, yb1, cb1, sb1⟩ => ?_
  subst hv
  have q1 : (hearE noRq 1 0 2 [updP p s x] (metE 96 96 2)).asks = [] := by rw [o0.upd hp.1 hp.2 (.inl rfl)]; rfl
  have o1 := o0.hear1 hp.1 hp.2 (by omega) (s := s) hx 2
  generalize hearE noRq 1 0 2 [updP p s x] (metE 96 96 2) = e1 at sb1 o1 q1
  have hb1 := sb1.le
  simp (disch := omega) only [go_sem, ↓reduceIte ]
  refine (eselect_c sb1.a o1.pre).mono fun v A2 na2 _ ⟨e2, L2, ks2, es12, es22, ts2, tb2, d2, l22, y2, c2, ow2, hse2, sa2, hsl2, how2, hko2⟩ => ?_
  obtain ⟨o2, _, _⟩ := o1.sel hp.1 hp.2 (by omega) hse2
  have hw2 := ask_way o1 (by omega) (by simp [feasM])
  rw [hw2] at o2
  have o2 : OneE 96 96 e2 p (tOpt (tldOf 1 (updP p s x) 2)) none (some ⟨pfxA p, pfxN p, s, x + 96⟩) 1 := o2
  have q2 : e2.asks = [] := by
    rw [hse2.asks1 (o1.ts1 (by omega)) o2.srt, show wantE e2.es (tldOf 1 (updP p s x) 2).addr (tldOf 1 (updP p s x) 2).len = _ from o2.mrk, if_pos (feasM_lt (by omega))]
    exact q1
  have hn2 := hsl2.one
  have ha2 := sa2.le
  simp (disch := omega) only [go_sem, ↓reduceIte , hn2]
  refine (update17_c p s (x + 97) hp.1 hp.2).mono fun v A3 na3 _ ⟨hv, ha3, ka3⟩ => ?_
  subst hv
  unfold Prt.cells
  simp (disch := omega) only [go_sem, ↓reduceIte ]
  refine buildSQ_all (n := 1) [.agg #[.int .u8 3, .int .u64 0, .int .i64 3, .int .u32 (pfxA p), .int .u8 (pfxN p), .int .u16 s, .int .u16 (x + 97)]] sl34 zero32 (by omega) (by omega) rfl (by simp [cells_agg]) fun f3 hf3 => ?_
  have hlit3 := pt_lit A3 f3 32 (updP p s (x + 97))
  have sa3 := ((EngS.refl sa2.a).still ka3 ha3).still (nx2 := f3 + 1) (part_fresh A3 f3 (updP p s (x + 97)) na3 hf3) (by omega)
  simp (disch := omega) only [go_sem, ↓reduceIte ]
  refine (hearUpd_c (fr := 1) (x := updP p s (x + 97)) sa3.a hlit3 (fun c hc => Classical.byContradiction fun hz => by have := sa2.a.k.rng c hz; omega) (upd_ok hp.1 hp.2) rfl (by omega) 2 (by omega) (by rw [o2.st]; omega) o2.hok (by omega)).mono fun v B3 nb3 _ ⟨hv, yb3, cb3, sb3⟩ => ?_
  subst hv
  have q3 : (hearE noRq 1 0 2 [updP p s (x + 97)] e2).asks = [] := by rw [o2.upd hp.1 hp.2 (.inl rfl)]; exact q2
  have o3 := o2.hear1 hp.1 hp.2 (by omega) (s := s) hxx 2
  generalize hearE noRq 1 0 2 [updP p s (x + 97)] e2 = e3 at sb3 o3 q3
  have hb3 := sb3.le
  simp (disch := omega) only [go_sem, ↓reduceIte ]
  refine (eselect_c sb3.a o3.pre).mono fun v A4 na4 _ ⟨e4, L4, ks4, es14, es24, ts4, tb4, d4, l24, y4, c4, ow4, hse4, sa4, hsl4, how4, hko4⟩ => ?_
  obtain ⟨o4, hr4, hL4⟩ := o3.sel hp.1 hp.2 (by omega) hse4
  have hf4 : feasM (some ⟨pfxA p, pfxN p, s, x + 96⟩) (tldOf 1 (updP p s (x + 97)) 2) = false := feasM_ge (by omega) (by omega)
  have hw4 := ask_none o3 hf4
  rw [hw4] at o4 hr4 hL4
  have o4 : OneE 96 96 e4 p (tOpt (tldOf 1 (updP p s (x + 97)) 2)) none (some ⟨pfxA p, pfxN p, s, x + 96⟩) 2 := o4
  have q4 : e4.asks = [askP p s] := by
    rw [hse4.asks1 (o3.ts1 (by omega)) o4.srt, show wantE e4.es (tldOf 1 (updP p s (x + 97)) 2).addr (tldOf 1 (updP p s (x + 97)) 2).len = _ from o4.mrk, if_neg (by rw [hf4]; simp), q3]
    have hsel : e4.sel = L4 := by rw [hse4.eq]
    rw [hsel]
    exact blk_ask o4.mrk hL4 hp.1 hp.2
  have hn4 := hsl4.one
  have ha4 := sa4.le
  simp (disch := omega) only [go_sem, ↓reduceIte , hn4]
  refine (pfx_c p hp.1 hp.2 _ _).mono fun v A5 na5 _ ⟨hv, ha5, ka5⟩ => ?_
  subst hv
  have sa5 := (EngS.refl sa4.a).still ka5 ha5
  simp (disch := omega) only [go_sem, ↓reduceIte ]
  refine (eroute_c sa5.a (by have := o4.pre.sl; omega) (pfxA p) (pfxN p)).mono fun v B5 nb5 _ ⟨hb5, kb5, hv⟩ => ?_
  subst hv
  rw [hr4]
  have sb5 := (EngS.refl sa5.a).still kb5 hb5
  simp only [Option.getD_none, Option.isSome_none]
  unfold rt0 Rt.cells
  simp (disch := omega) only [go_sem, ↓reduceIte ]
  intro b10 hb10
  simp (disch := omega) only [go_sem, ↓reduceIte ]
  have kd : Kp (fun _ => False) nb5 B5 (((((B5.new b10 #[.int .u32 0, .int .u8 0, .int .i64 0, .int .u16 0, .int .u16 0] 40).put b10 0 (.int .u32 0)).put b10 1 (.int .u8 0)).put b10 (1 + 1) (.int .i64 0)).put b10 (1 + 1 + 1) (.int .u16 0) |>.put b10 (1 + 1 + 1 + 1) (.int .u16 0)) := (by repeat first | exact Kp.refl _ _ _ | refine Kp.dropT ?_ (.inl (by omega)) | refine Kp.put ?_ (.inl (by omega)) | refine Kp.new ?_ (by omega) | refine Kp.put ?_ (.inr (by omega)) | refine Kp.newO ?_ (by omega) | refine Kp.setO ?_ (.inl (by omega)) | refine Kp.setO ?_ (.inr (by omega)) | refine Kp.trans0 ?_ (by assumption) (by omega) | refine Kp.transS ?_ (by assumption) (by omega) (fun b hb hT => by first | omega | (dsimp only at hT ⊢; omega) | (simp only at hT ⊢; omega))) 
  have s6 := (EngS.refl sb5.a).still (nx2 := b10 + 1) kd (by omega)
  refine (etell0_c s6.a 3 (by omega) o4.pre.ll o4.pre.sl (by rw [q4]; simp)).mono fun v H8 nx8 _ ⟨v8, y8, c8, own8, hv, s8, hsl8, how8, hko8⟩ => ?_
  subst hv
  have o8 := o4.tell
  have q8 : (tellE e4).asks = [] := by rw [tellE_eq]
  have hany : (tellP e4 (mayE [])).any (isAsk p s) = true := by
    unfold tellP
    rw [List.any_append, q4]
    simp [isAsk_self]
  generalize tellP e4 (mayE []) = Y at hsl8 hany ⊢
  generalize tellE e4 = e8 at s8 o8 q8
  have hone8 := hsl8.one
  have hx8 := s8.le
  have st8 := ((((((((st.trans sa1).trans sb1).trans sa2).trans sa3).trans sb3).trans sa4).trans sa5).trans sb5).trans (s6.trans s8)
  obtain ⟨va, vc, rfl⟩ := hsl8.form
  simp (disch := omega) only [go_sem, ↓reduceIte , hone8]
  intro b12 hb12
  simp (disch := omega) only [go_sem, ↓reduceIte , hone8]
  have kd8 : Kp (fun _ => False) nx8 H8 ((H8.new b12 #[.int .i64 0, .slice none 0 0] 36).put b12 0 (.int .i64 e4.id) |>.put b12 1 (.slice va Y.length vc)) := (by repeat first | exact Kp.refl _ _ _ | refine Kp.dropT ?_ (.inl (by omega)) | refine Kp.put ?_ (.inl (by omega)) | refine Kp.new ?_ (by omega) | refine Kp.put ?_ (.inr (by omega)) | refine Kp.newO ?_ (by omega) | refine Kp.setO ?_ (.inl (by omega)) | refine Kp.setO ?_ (.inr (by omega)) | refine Kp.trans0 ?_ (by assumption) (by omega) | refine Kp.transS ?_ (by assumption) (by omega) (fun b hb hT => by first | omega | (dsimp only at hT ⊢; omega) | (simp only at hT ⊢; omega))) 
  have s9 := (EngS.refl s8.a).still (nx2 := b12 + 1) kd8 (by omega)
  have st9 := st8.trans s9
  have cM : ((H8.new b12 #[.int .i64 0, .slice none 0 0] 36).put b12 0 (.int .i64 e4.id) |>.put b12 1 (.slice va Y.length vc)).c b12 1 = some (.slice va Y.length vc) := by simp (disch := omega) only [go_sem, ↓reduceIte ]
  have hs9 := hsl8.kp kd8 (show nx8 ≤ b12 + 1 by omega) (by simp)
  generalize ((H8.new b12 #[.int .i64 0, .slice none 0 0] 36).put b12 0 (.int .i64 e4.id) |>.put b12 1 (.slice va Y.length vc)) = M at kd8 s9 st9 cM hs9 ⊢
  refine asks_loop hp (by omega) hs9 cM (by omega) (fun H9 nx9 hx9 hk9 => ?_)
  rw [hany]
  have s10 := st9.still hk9 hx9
  exact asks_mid hp hs (by omega) hask s10 o8 (by omega) q8 (by omega) (by omega) hk1
end Go.Proofs.YtngnbafididkcaaGreat
