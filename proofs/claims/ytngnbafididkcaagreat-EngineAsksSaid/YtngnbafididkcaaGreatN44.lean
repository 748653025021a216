/- EngineAsks: in our own logic: its end; what lies ahead of it; its loop. -/
import Derived.Test.YtngnbafididkcaaGreatN43
namespace Go.Proofs.YtngnbafididkcaaGreat
open Go.RowKit
set_option linter.unusedSimpArgs false

noncomputable def akT19 : Code := codeAt [.T, .T, .T, .T, .T, .T, .T, .T, .T, .T, .T, .T, .T, .T, .T, .T, .T, .T, .T] ((Tryz.f9.body).getD .skip)
set_option maxHeartbeats 1000000 in
set_option maxRecDepth 20000 in
theorem asks_fin {lo nx nxx : Nat} {H HH : AH} {b16 b19 : Nat} {s x w : Int} (_hs : 0 ≤ s ∧ s ≤ 65535) (hx : 0 ≤ x ∧ x ≤ 60000) (hnx : nxx ≤ nx) (hk : Kp (fun _ => False) nxx HH H) (c16 : H.c b16 4 = some (.int .u16 w)) (c19m : H.c b19 3 = some (.int .u16 (x + 193))) (c19s : H.c b19 4 = some (.int .u16 (nextI s))) :
    awp Tryz.prog lo L9 akT19 (retQ Tryz.prog Tryz.f9 fun v H' nx' => v = .bool true ∧ nxx ≤ nx' ∧ Kp (fun _ => False) nxx HH H') [(0, .int .u16 x), (1, .int .u16 s), (11, .bool false), (14, .bool true), (16, .pointer (some ⟨b16, 0, none⟩)), (17, .bool true), (18, .int .u16 w), (19, .pointer (some ⟨b19, 0, none⟩)), (20, .bool true)] H nx := by
  have hcode : akT19 = codeAt [.T, .T, .T, .T, .T, .T, .T, .T, .T, .T, .T, .T, .T, .T, .T, .T, .T, .T, .T] ((Tryz.f9.body).getD .skip) := rfl
  simp only [Tryz.f9, Option.getD_some, codeAt_H, codeAt_T, codeAt_I, codeAt_L, codeAt_C, codeAt_P, codeAt_nil] at hcode
  rw [hcode]
  clear hcode
  have hnxt : IntKind.u16.wrap (s + 1) = nextI s := rfl
  simp (disch := omega) only [go_sem, ↓reduceIte , c16, c19m, c19s, hnxt]
  exact ⟨hnx, hk⟩
noncomputable def akT16 : Code := codeAt [.T, .T, .T, .T, .T, .T, .T, .T, .T, .T, .T, .T, .T, .T, .T, .T] ((Tryz.f9.body).getD .skip)
set_option maxHeartbeats 4000000 in
set_option maxRecDepth 20000 in
theorem asks_end {lo nx nx0 nxx : Nat} {H H0 HH : AH} {pt b16 n : Nat} {e : Eng} {y : ELay} {col : Nat → Nat} {p s x w : Int} {rest : Env} (hp : 0 ≤ p ∧ p ≤ 255) (hs : 0 ≤ s ∧ s ≤ 65535) (hx : 0 ≤ x ∧ x ≤ 60000) (st : EngS lo nx0 H0 pt (fun _ => 0) e H nx y col) (ho : OneQ w 96 96 e p (tOpt (tldOf 1 (updP p s (x + 97)) 2)) none (some ⟨pfxA p, pfxN p, s, x + 96⟩) n) (hn : n ≤ 40) (hlo : lo ≤ nxx) (hnx : nxx ≤ nx0) (hk : Kp (fun _ => False) nxx HH H0) (l16 : b16 < nx) (k16 : col b16 = 0) (c16 : H.c b16 4 = some (.int .u16 w)) :
    awp Tryz.prog lo L9 akT16 (retQ Tryz.prog Tryz.f9 fun v H' nx' => v = .bool true ∧ nxx ≤ nx' ∧ Kp (fun _ => False) nxx HH H') ((0, .int .u16 x) :: (1, .int .u16 s) :: (2, .int .u8 p) :: (9, .pointer (some ⟨pt, 0, none⟩)) :: (11, .bool false) :: (14, .bool true) :: (16, .pointer (some ⟨b16, 0, none⟩)) :: (17, .bool true) :: (18, .int .u16 w) :: rest) H nx := by
  have hcode : akT16 = .seq (codeAt [.T, .T, .T, .T, .T, .T, .T, .T, .T, .T, .T, .T, .T, .T, .T, .T, .H] ((Tryz.f9.body).getD .skip)) (.seq (codeAt [.T, .T, .T, .T, .T, .T, .T, .T, .T, .T, .T, .T, .T, .T, .T, .T, .T, .H] ((Tryz.f9.body).getD .skip)) (.seq (codeAt [.T, .T, .T, .T, .T, .T, .T, .T, .T, .T, .T, .T, .T, .T, .T, .T, .T, .T, .H] ((Tryz.f9.body).getD .skip)) akT19)) := rfl
  simp only [Tryz.f9, Option.getD_some, codeAt_H, codeAt_T, codeAt_I, codeAt_L, codeAt_C, codeAt_P, codeAt_nil] at hcode
  rw [hcode]
  clear hcode
  have hle0 := st.le
  have hnxt : IntKind.u16.wrap (s + 1) = nextI s := rfl
  simp (disch := omega) only [go_sem, ↓reduceIte ]
  refine (update17_c p (nextI s) (x + 97) hp.1 hp.2).mono fun v A1 na1 _ ⟨hv, ha1, ka1⟩ => ?_
  subst hv
  unfold Prt.cells
  simp (disch := omega) only [go_sem, ↓reduceIte ]
  refine buildSQ_all (n := 1) [.agg #[.int .u8 3, .int .u64 0, .int .i64 3, .int .u32 (pfxA p), .int .u8 (pfxN p), .int .u16 (nextI s), .int .u16 (x + 97)]] sl34 zero32 (by omega) (by omega) rfl (by simp [cells_agg]) fun f1 hf1 => ?_
  have hlit1 := pt_lit A1 f1 32 (updP p (nextI s) (x + 97))
  have sa1 := ((EngS.refl st.a).still ka1 ha1).still (nx2 := f1 + 1) (part_fresh A1 f1 (updP p (nextI s) (x + 97)) na1 hf1) (by omega)
  simp (disch := omega) only [go_sem, ↓reduceIte ]
  refine (hearUpd_c (fr := 1) (x := updP p (nextI s) (x + 97)) sa1.a hlit1 (fun c hc => Classical.byContradiction fun hz => by have := st.a.k.rng c hz; omega) (upd_ok hp.1 hp.2) rfl (by omega) 3 (by omega) (by rw [ho.st]; omega) ho.hok (by omega)).mono fun v B1 nb1 _ ⟨hv, yb1, cb1, sb1⟩ => ?_
  subst hv
  have o1 := ho.hear1 hp.1 hp.2 (by omega) (s := nextI s) (m := x + 97) (by omega) 3
  generalize hearE noRq 1 0 3 [updP p (nextI s) (x + 97)] e = e1 at sb1 o1
  have hb1 := sb1.le
  simp (disch := omega) only [go_sem, ↓reduceIte ]
  refine (eselect_c sb1.a o1.pre).mono fun v A2 na2 _ ⟨e2, L2, ks2, es12, es22, ts2, tb2, d2, l22, y2, c2, ow2, hse2, sa2, hsl2, how2, hko2⟩ => ?_
  obtain ⟨o2, hr2, _⟩ := o1.sel hp.1 hp.2 (by omega) hse2
  have hw2 := ask_way o1 (by omega) (feas_next hs _ _ _)
  rw [hw2] at hr2
  have hn2 := hsl2.one
  have ha2 := sa2.le
  simp (disch := omega) only [go_sem, ↓reduceIte , hn2]
  refine (pfx_c p hp.1 hp.2 _ _).mono fun v A3 na3 _ ⟨hv, ha3, ka3⟩ => ?_
  subst hv
  have sa3 := (EngS.refl sa2.a).still ka3 ha3
  simp (disch := omega) only [go_sem, ↓reduceIte ]
  refine (eroute_c sa3.a (by have := o2.pre.sl; omega) (pfxA p) (pfxN p)).mono fun v B3 nb3 _ ⟨hb3, kb3, hv⟩ => ?_
  subst hv
  rw [hr2]
  have sb3 := (EngS.refl sa3.a).still kb3 hb3
  simp only [Option.getD_some, Option.isSome_some]
  unfold Rt.cells
  have stp := (((sa1.trans sb1).trans sa2).trans sa3).trans sb3
  have sta := st.trans stp
  have c16e : B3.c b16 4 = some (.int .u16 w) := by rw [stp.kp.cell b16 4 l16 (by rw [k16]; simp)]; exact c16
  have hle1 := sta.le
  have kE : Kp (fun _ => False) nxx HH B3 := hk.trans (U := fun _ => False) sta.kp0 hnx (fun _ _ h => h) (fun _ _ h => h)
  simp (disch := omega) only [go_sem, ↓reduceIte ]
  intro b19 hb19
  simp (disch := omega) only [go_sem, ↓reduceIte ]
  have hne : b16 ≠ b19 := by have := stp.le; omega
  have kd : Kp (fun _ => False) nb3 B3 (((((B3.new b19 #[.int .u32 0, .int .u8 0, .int .i64 0, .int .u16 0, .int .u16 0] 40).put b19 0 (.int .u32 (pfxA p))).put b19 1 (.int .u8 (pfxN p))).put b19 (1 + 1) (.int .i64 1)).put b19 (1 + 1 + 1) (.int .u16 (x + 97 + 96)) |>.put b19 (1 + 1 + 1 + 1) (.int .u16 (nextI s))) := (by repeat first | exact Kp.refl _ _ _ | refine Kp.dropT ?_ (.inl (by omega)) | refine Kp.put ?_ (.inl (by omega)) | refine Kp.new ?_ (by omega) | refine Kp.put ?_ (.inr (by omega)) | refine Kp.newO ?_ (by omega) | refine Kp.setO ?_ (.inl (by omega)) | refine Kp.setO ?_ (.inr (by omega)) | refine Kp.trans0 ?_ (by assumption) (by omega) | refine Kp.transS ?_ (by assumption) (by omega) (fun b hb hT => by first | omega | (dsimp only at hT ⊢; omega) | (simp only at hT ⊢; omega))) 
  have bm : (((((B3.new b19 #[.int .u32 0, .int .u8 0, .int .i64 0, .int .u16 0, .int .u16 0] 40).put b19 0 (.int .u32 (pfxA p))).put b19 1 (.int .u8 (pfxN p))).put b19 (1 + 1) (.int .i64 1)).put b19 (1 + 1 + 1) (.int .u16 (x + 97 + 96)) |>.put b19 (1 + 1 + 1 + 1) (.int .u16 (nextI s))).c b19 3 = some (.int .u16 (x + 97 + 96)) := by simp (disch := omega) only [go_sem, ↓reduceIte ]
  have bs : (((((B3.new b19 #[.int .u32 0, .int .u8 0, .int .i64 0, .int .u16 0, .int .u16 0] 40).put b19 0 (.int .u32 (pfxA p))).put b19 1 (.int .u8 (pfxN p))).put b19 (1 + 1) (.int .i64 1)).put b19 (1 + 1 + 1) (.int .u16 (x + 97 + 96)) |>.put b19 (1 + 1 + 1 + 1) (.int .u16 (nextI s))).c b19 4 = some (.int .u16 (nextI s)) := by simp (disch := omega) only [go_sem, ↓reduceIte ]
  have c16f := kd.cell0 b16 4 (by have := stp.le; omega)
  rw [c16e] at c16f
  have ex : x + 97 + 96 = x + 193 := by omega
  exact asks_fin hs hx (by omega) (kE.trans (U := fun _ => False) (nx' := nb3) (kd.mono (Nat.le_refl _) (fun _ _ h => h)) (by omega) (fun _ _ h => h) (fun _ _ h => h)) c16f (bm.trans (by rw [ex])) bs
end Go.Proofs.YtngnbafididkcaaGreat
