/- EngineForgets: in our own logic: whole. -/
import Derived.Test.YtngnbafididkcaaGreatN60
namespace Go.Proofs.YtngnbafididkcaaGreat
open Go.RowKit
set_option linter.unusedSimpArgs false

theorem costN_two1 {e : Eng} {a b : Lnk} (h : e.lk = [(1, a), (2, b)]) : costN e 1 = costL a := by unfold costN; rw [h]; rfl
theorem costN_two2 {e : Eng} {a b : Lnk} (h : e.lk = [(1, a), (2, b)]) : costN e 2 = costL b := by unfold costN; rw [h]; rfl
noncomputable def fgT7 : Code := codeAt [.T, .T, .T, .T, .T, .T, .T] ((Tryz.f11.body).getD .skip)
set_option maxHeartbeats 4000000 in
set_option maxRecDepth 20000 in
theorem forgets_tail {lo nx nx0 nxx : Nat} {H H0 HH : AH} {pt : Nat} {e : Eng} {y : ELay} {col : Nat → Nat} {p x : Int} {other : Bool} {n0 : Value} {rest : Env} (hp : 0 ≤ p ∧ p ≤ 255) (st : EngS lo nx0 H0 pt (fun _ => 0) e H nx y col) (o : OneL [(1, lkA 37), (2, lkB other 37)] e p (tOpt (tldOf 1 (updP p 5 x) 2)) none 38) (hr : routeE e (pfxA p) (pfxN p) = none) (hlo : lo ≤ nxx) (hnx : nxx ≤ nx0) (hk : Kp (fun _ => False) nxx HH H0) :
    awp Tryz.prog lo L11 fgT7 (retQ Tryz.prog Tryz.f11 fun v H' nx' => v = .bool true ∧ nxx ≤ nx' ∧ Kp (fun _ => False) nxx HH H') ((1, .int .u8 p) :: (2, .bool other) :: (7, .pointer (some ⟨pt, 0, none⟩)) :: (9, .bool true) :: (10, n0) :: rest) H nx := by
  have hcode : fgT7 = .seq (codeAt [.T, .T, .T, .T, .T, .T, .T, .H] ((Tryz.f11.body).getD .skip)) (.seq (codeAt [.T, .T, .T, .T, .T, .T, .T, .T, .H] ((Tryz.f11.body).getD .skip)) (.seq (codeAt [.T, .T, .T, .T, .T, .T, .T, .T, .T, .H] ((Tryz.f11.body).getD .skip)) (.seq (codeAt [.T, .T, .T, .T, .T, .T, .T, .T, .T, .T, .H] ((Tryz.f11.body).getD .skip)) fgT11))) := rfl
  simp only [Tryz.f11, Option.getD_some, codeAt_H, codeAt_T, codeAt_I, codeAt_L, codeAt_C, codeAt_P, codeAt_nil] at hcode
  rw [hcode]
  clear hcode
  have hle := st.le
  simp (disch := omega) only [go_sem, ↓reduceIte ]
  refine (pfx_c p hp.1 hp.2 _ _).mono fun v A3 na3 _ ⟨hv, ha3, ka3⟩ => ?_
  subst hv
  have sa3 := (EngS.refl st.a).still ka3 ha3
  simp (disch := omega) only [go_sem, ↓reduceIte ]
  refine (eroute_c sa3.a (by have := o.pre.sl; omega) (pfxA p) (pfxN p)).mono fun v B3 nb3 _ ⟨hb3, kb3, hv⟩ => ?_
  subst hv
  rw [hr]
  have sb3 := (EngS.refl sa3.a).still kb3 hb3
  simp only [Option.getD_none, Option.isSome_none]
  unfold rt0 Rt.cells
  simp (disch := omega) only [go_sem, ↓reduceIte ]
  intro b11 hb11
  simp (disch := omega) only [go_sem, ↓reduceIte ]
  have kd : Kp (fun _ => False) nb3 B3 (((((B3.new b11 #[.int .u32 0, .int .u8 0, .int .i64 0, .int .u16 0, .int .u16 0] 40).put b11 0 (.int .u32 0)).put b11 1 (.int .u8 0)).put b11 (1 + 1) (.int .i64 0)).put b11 (1 + 1 + 1) (.int .u16 0) |>.put b11 (1 + 1 + 1 + 1) (.int .u16 0)) := (by repeat first | exact Kp.refl _ _ _ | refine Kp.dropT ?_ (.inl (by omega)) | refine Kp.put ?_ (.inl (by omega)) | refine Kp.new ?_ (by omega) | refine Kp.put ?_ (.inr (by omega)) | refine Kp.newO ?_ (by omega) | refine Kp.setO ?_ (.inl (by omega)) | refine Kp.setO ?_ (.inr (by omega)) | refine Kp.trans0 ?_ (by assumption) (by omega) | refine Kp.transS ?_ (by assumption) (by omega) (fun b hb hT => by first | omega | (dsimp only at hT ⊢; omega) | (simp only at hT ⊢; omega))) 
  have s6 := (EngS.refl sb3.a).still (nx2 := b11 + 1) kd (by omega)
  generalize (((((B3.new b11 #[.int .u32 0, .int .u8 0, .int .i64 0, .int .u16 0, .int .u16 0] 40).put b11 0 (.int .u32 0)).put b11 1 (.int .u8 0)).put b11 (1 + 1) (.int .i64 0)).put b11 (1 + 1 + 1) (.int .u16 0) |>.put b11 (1 + 1 + 1 + 1) (.int .u16 0)) = M at kd s6 ⊢
  refine (elinks_c s6.a (by rw [o.lk]; simp) (by rw [o.lk]; exact wf_two) o.pre.lk).mono fun v H8 nx8 _ ⟨ks, own8, hp8, hsd8, s8, hs8, how8⟩ => ?_
  rw [o.lk] at hp8
  have hks := keys12 hp8 hsd8
  subst hks
  have c1 := costN_two1 o.lk
  have c2 := costN_two2 o.lk
  have sta := ((((st.trans sa3).trans sb3).trans s6).trans s8)
  have hle8 := sta.le
  have kE : Kp (fun _ => False) nxx HH H8 := hk.trans (U := fun _ => False) sta.kp0 hnx (fun _ _ h => h) (fun _ _ h => h)
  have hs8 : SlA nx8 H8 7 v 2 (ptCells [⟨2, 0, 1, 0, 0, 0, costN e 1⟩, ⟨2, 0, 2, 0, 0, 0, costN e 2⟩]) own8 := hs8
  rw [c1, c2] at hs8
  have hone8 := hs8.one
  cases other with
  | false =>
    rw [lkA_end.2.1] at hs8
    simp (disch := omega) only [go_sem, ↓reduceIte , hone8]
    exact forgets_end hs8 lkA_end.1 (by omega) kE
  | true =>
    rw [lkA_end.2.2] at hs8
    simp (disch := omega) only [go_sem, ↓reduceIte , hone8]
    exact forgets_end hs8 lkA_end.1 (by omega) kE
noncomputable def fgT0 : Code := ((Tryz.f11.body).getD .skip)
set_option maxHeartbeats 4000000 in
set_option maxRecDepth 20000 in
theorem engineForgets_c {lo nx : Nat} {H : AH} (x p : Int) (other : Bool) (hx : 0 ≤ x ∧ x ≤ 65535) (hp : 0 ≤ p ∧ p ≤ 255) : ACalls Tryz.prog lo 11 #[.int .u16 x, .int .u8 p, .bool other] H nx (fun v H' nx' => v = .bool true ∧ nx ≤ nx' ∧ Kp (fun _ => False) nx H H') := by
  refine ACalls.withLo fun hlo => ?_
  refine acalls_of_awp (c := fgT0) L11 Tryz.func11 rfl (by kernel_rfl) ?_
  have hcode : fgT0 = .seq (codeAt [.H] ((Tryz.f11.body).getD .skip)) (.seq (codeAt [.T, .H] ((Tryz.f11.body).getD .skip)) (.seq (codeAt [.T, .T, .H] ((Tryz.f11.body).getD .skip)) (.seq (codeAt [.T, .T, .T, .H] ((Tryz.f11.body).getD .skip)) (.seq (codeAt [.T, .T, .T, .T, .H] ((Tryz.f11.body).getD .skip)) (.seq (codeAt [.T, .T, .T, .T, .T, .H] ((Tryz.f11.body).getD .skip)) (.seq (.seq (codeAt [.T, .T, .T, .T, .T, .T, .H, .H] ((Tryz.f11.body).getD .skip)) (.block 0 fgL)) fgT7)))))) := rfl
  simp only [Tryz.f11, Option.getD_some, codeAt_H, codeAt_T, codeAt_I, codeAt_L, codeAt_C, codeAt_P, codeAt_nil] at hcode
  rw [hcode]
  clear hcode
  simp (disch := omega) only [go_sem, ↓reduceIte ]
  refine awake17_c.mono fun v H1 nx1 _ ⟨hv, hx1, hk1⟩ => ?_
  subst hv
  by_cases hbig : 60000 < x
  · simp (disch := omega) only [go_sem, ↓reduceIte ]
    refine awake17_c.mono fun v H2 nx2 _ ⟨hv, hx2, hk2⟩ => ?_
    subst hv
    simp (disch := omega) only [go_sem, ↓reduceIte ]
    exact ⟨by omega, hk1.trans (U := fun _ => False) hk2 (by omega) (fun _ _ h => h) (fun _ _ h => h)⟩
  simp (disch := omega) only [go_sem, ↓reduceIte ]
  refine (met17_c 96 96).mono fun v H2 nx2 _ ⟨q, y2, col, hv, st⟩ => ?_
  subst hv
  have hx2 := st.le
  have o0 := OneE.start 96 96 p (by omega) (by omega)
  simp (disch := omega) only [go_sem, ↓reduceIte ]
  refine (update17_c p 5 x hp.1 hp.2).mono fun v A1 na1 _ ⟨hv, ha1, ka1⟩ => ?_
  subst hv
  unfold Prt.cells
  simp (disch := omega) only [go_sem, ↓reduceIte ]
  refine buildSQ_all (n := 1) [.agg #[.int .u8 3, .int .u64 0, .int .i64 3, .int .u32 (pfxA p), .int .u8 (pfxN p), .int .u16 5, .int .u16 x]] sl34 zero32 (by omega) (by omega) rfl (by simp [cells_agg]) fun f1 hf1 => ?_
  have hlit1 := pt_lit A1 f1 32 (updP p 5 x)
  have sa1 := ((EngS.refl st.a).still ka1 ha1).still (nx2 := f1 + 1) (part_fresh A1 f1 (updP p 5 x) na1 hf1) (by omega)
  simp (disch := omega) only [go_sem, ↓reduceIte ]
  refine (hearUpd_c (fr := 1) (x := updP p 5 x) sa1.a hlit1 (fun c hc => Classical.byContradiction fun hz => by have := st.a.k.rng c hz; omega) (upd_ok hp.1 hp.2) rfl (by omega) 2 (by omega) (by rw [o0.st]; omega) o0.hok (by omega)).mono fun v B1 nb1 _ ⟨hv, yb1, cb1, sb1⟩ => ?_
  subst hv
  have o1 := o0.hear1 hp.1 hp.2 (by omega) (s := 5) hx 2
  generalize hearE noRq 1 0 2 [updP p 5 x] (metE 96 96 2) = e1 at sb1 o1
  have hb1 := sb1.le
  simp (disch := omega) only [go_sem, ↓reduceIte ]
  refine (eselect_c sb1.a o1.pre).mono fun v A2 na2 _ ⟨e2, L2, ks2, es12, es22, ts2, tb2, d2, l22, y2, c2, ow2, hse2, sa2, hsl2, how2, hko2⟩ => ?_
  obtain ⟨o2, hr2, _⟩ := o1.sel hp.1 hp.2 (by omega) hse2
  have hw2 := ask_way o1 (by omega) (by simp [feasM])
  rw [hw2] at hr2
  have hn2 := hsl2.one
  have ha2 := sa2.le
  simp (disch := omega) only [go_sem, ↓reduceIte , hn2]
  refine (pfx_c p hp.1 hp.2 _ _).mono fun v A3 na3 _ ⟨hv, ha3, ka3⟩ => ?_
  subst hv
  have sa3 := (EngS.refl sa2.a).still ka3 ha3
  simp (disch := omega) only [go_sem, ↓reduceIte ]
  refine (eroute_c sa3.a (by have := o2.pre.sl; omega) (pfxA p) (pfxN p)).mono fun v B3 nb3 _ ⟨hb3, kb3, hv⟩ => ?_
  subst hv
  rw [hr2]
  have sb3 := (EngS.refl sa3.a).still kb3 hb3
  simp only [Option.getD_some, Option.isSome_some]
  unfold Rt.cells
  simp (disch := omega) only [go_sem, ↓reduceIte ]
  intro b8 hb8
  have kd : Kp (fun _ => False) nb3 B3 (((((B3.new b8 #[.int .u32 0, .int .u8 0, .int .i64 0, .int .u16 0, .int .u16 0] 40).put b8 0 (.int .u32 (pfxA p))).put b8 1 (.int .u8 (pfxN p))).put b8 (1 + 1) (.int .i64 1)).put b8 (1 + 1 + 1) (.int .u16 (x + 96)) |>.put b8 (1 + 1 + 1 + 1) (.int .u16 5)) := (by repeat first | exact Kp.refl _ _ _ | refine Kp.dropT ?_ (.inl (by omega)) | refine Kp.put ?_ (.inl (by omega)) | refine Kp.new ?_ (by omega) | refine Kp.put ?_ (.inr (by omega)) | refine Kp.newO ?_ (by omega) | refine Kp.setO ?_ (.inl (by omega)) | refine Kp.setO ?_ (.inr (by omega)) | refine Kp.trans0 ?_ (by assumption) (by omega) | refine Kp.transS ?_ (by assumption) (by omega) (fun b hb hT => by first | omega | (dsimp only at hT ⊢; omega) | (simp only at hT ⊢; omega))) 
  simp (disch := omega) only [go_sem, ↓reduceIte ]
  have s6 := (EngS.refl sb3.a).still (nx2 := b8 + 1) kd (by omega)
  have st6 := (((((st.trans sa1).trans sb1).trans sa2).trans sa3).trans sb3).trans s6
  refine forgets_loop hp st6 o2.toL (fun e H nx y col st o hr => ?_)
  exact forgets_tail hp st o hr (by omega) (by omega) hk1
end Go.Proofs.YtngnbafididkcaaGreat
