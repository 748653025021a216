/- EngineAsks: in our own logic: behind its loop. -/
import Derived.Test.YtngnbafididkcaaGreatN44
namespace Go.Proofs.YtngnbafididkcaaGreat
open Go.RowKit
set_option linter.unusedSimpArgs false

noncomputable def akT11 : Code := codeAt [.T, .T, .T, .T, .T, .T, .T, .T, .T, .T, .T] ((Tryz.f9.body).getD .skip)
set_option maxHeartbeats 4000000 in
set_option maxRecDepth 20000 in
theorem asks_mid {lo nx nx0 nxx : Nat} {H H0 HH : AH} {pt n : Nat} {e : Eng} {y : ELay} {col : Nat → Nat} {p s x ask : Int} {rest : Env} (hp : 0 ≤ p ∧ p ≤ 255) (hs : 0 ≤ s ∧ s ≤ 65535) (hx : 0 ≤ x ∧ x ≤ 60000) (hask : 0 ≤ ask ∧ ask ≤ 65535) (st : EngS lo nx0 H0 pt (fun _ => 0) e H nx y col) (ho : OneQ 1 96 96 e p (tOpt (tldOf 1 (updP p s (x + 97)) 2)) none (some ⟨pfxA p, pfxN p, s, x + 96⟩) n) (hn : n ≤ 30) (has : e.asks = []) (hlo : lo ≤ nxx) (hnx : nxx ≤ nx0) (hk : Kp (fun _ => False) nxx HH H0) :
    awp Tryz.prog lo L9 akT11 (retQ Tryz.prog Tryz.f9 fun v H' nx' => v = .bool true ∧ nxx ≤ nx' ∧ Kp (fun _ => False) nxx HH H') ((0, .int .u16 x) :: (1, .int .u16 s) :: (2, .int .u8 p) :: (3, .int .u16 ask) :: (9, .pointer (some ⟨pt, 0, none⟩)) :: (11, .bool false) :: (14, .bool true) :: rest) H nx := by
  have hcode : akT11 = .seq (codeAt [.T, .T, .T, .T, .T, .T, .T, .T, .T, .T, .T, .H] ((Tryz.f9.body).getD .skip)) (.seq (codeAt [.T, .T, .T, .T, .T, .T, .T, .T, .T, .T, .T, .T, .H] ((Tryz.f9.body).getD .skip)) (.seq (codeAt [.T, .T, .T, .T, .T, .T, .T, .T, .T, .T, .T, .T, .T, .H] ((Tryz.f9.body).getD .skip)) (.seq (codeAt [.T, .T, .T, .T, .T, .T, .T, .T, .T, .T, .T, .T, .T, .T, .H] ((Tryz.f9.body).getD .skip)) (.seq (codeAt [.T, .T, .T, .T, .T, .T, .T, .T, .T, .T, .T, .T, .T, .T, .T, .H] ((Tryz.f9.body).getD .skip)) akT16)))) := rfl
  simp only [Tryz.f9, Option.getD_some, codeAt_H, codeAt_T, codeAt_I, codeAt_L, codeAt_C, codeAt_P, codeAt_nil] at hcode
  rw [hcode]
  clear hcode
  have hle0 := st.le
  have hn1 : n + 1 ≤ 40 := by omega
  simp (disch := omega) only [go_sem, ↓reduceIte ]
  refine own17_c.mono fun v H3 nx3 _ ⟨b3, hb3, hv, hn3, hk3, hs3⟩ => ?_
  subst hv; subst hn3
  have hld3 := px_load hs3 (i := 0) rfl
  unfold pxL at hld3
  simp only [Nat.zero_mul, Nat.add_zero] at hld3
  simp (disch := omega) only [go_sem, ↓reduceIte , Int.toNat_zero, Nat.zero_mul, Nat.add_zero, hld3]
  refine buildSQ_all (n := 1) [.agg #[.int .u8 4, .int .u64 0, .int .i64 0, .int .u32 201326592, .int .u8 24, .int .u16 ask, .int .u16 0]] sl34 zero32 (by omega) (by omega) rfl (by simp [cells_agg]) fun f hf => ?_
  have hlit := pt_lit H3 f 32 ⟨4, 0, 0, 201326592, 24, ask, 0⟩
  have s6 := ((EngS.refl st.a).still hk3 (by omega)).still (nx2 := f + 1) (part_fresh H3 f ⟨4, 0, 0, 201326592, 24, ask, 0⟩ (b3 + 1) hf) (by omega)
  simp (disch := omega) only [go_sem, ↓reduceIte ]
  refine (hearReq_c (fr := 2) (x := ⟨4, 0, 0, 201326592, 24, ask, 0⟩) s6.a hlit (fun c hc => Classical.byContradiction fun hz => by have := st.a.k.rng c hz; omega) rfl (by show (0 : Int) ≤ 0 ∧ (0 : Int) ≤ 1000000; omega) (by omega) (by rw [ho.id]; omega) ho.lk2 3 (by omega) (by rw [ho.st]; omega) ho.hok (by omega) (by rw [has]; simp) (by have := ho.pre.sl; omega)).mono fun v H7 nx7 _ ⟨hv, y7, c7, s7⟩ => ?_
  subst hv
  rw [req_own ho.own] at s7
  have o7 := ho.req (w := if newI ask 1 = true then 2 else 1)
  generalize hwe : (if newI ask 1 = true then (2 : Int) else 1) = w at s7 o7
  generalize ({ e with own := [(ownPx, w)], due := true } : Eng) = e7 at s7 o7
  have hx7 := s7.le
  simp (disch := omega) only [go_sem, ↓reduceIte ]
  refine (eselect_c s7.a o7.pre).mono fun v A8 na8 _ ⟨e8, L8, ks8, es18, es28, ts8, tb8, d8, l28, y8, c8, ow8, hse8, sa8, hsl8, how8, hko8⟩ => ?_
  obtain ⟨o8, _, hL8⟩ := o7.sel hp.1 hp.2 (by omega) hse8
  have hw8 := ask_none o7 (feasM_ge (by omega) (by omega))
  rw [hw8] at o8 hL8
  have o8 : OneQ w 96 96 e8 p (tOpt (tldOf 1 (updP p s (x + 97)) 2)) none (some ⟨pfxA p, pfxN p, s, x + 96⟩) (n + 1) := o8
  have hro := route_own (e := e8) (by rw [hse8.eq]) hL8 (fun _ h => by cases h) (pfx_own p hp.1 hp.2)
  have hn8 := hsl8.one
  have ha8 := sa8.le
  simp (disch := omega) only [go_sem, ↓reduceIte , hn8]
  refine own17_c.mono fun v H9 nx9 _ ⟨b9, hb9, hv, hn9, hk9, hs9⟩ => ?_
  subst hv; subst hn9
  have hld9 := px_load hs9 (i := 0) rfl
  unfold pxL at hld9
  simp only [Nat.zero_mul, Nat.add_zero] at hld9
  have sa9 := (EngS.refl sa8.a).still hk9 (show na8 ≤ b9 + 1 by omega)
  simp (disch := omega) only [go_sem, ↓reduceIte , Int.toNat_zero, Nat.zero_mul, Nat.add_zero, hld9]
  refine (eroute_c sa9.a (by have := o8.pre.sl; omega) 201326592 24).mono fun v B9 nb9 _ ⟨hb9, kb9, hv⟩ => ?_
  subst hv
  rw [hro]
  have sb9 := (EngS.refl sa9.a).still kb9 hb9
  simp only [Option.getD_some, Option.isSome_some]
  unfold ownRq Rt.cells
  simp (disch := omega) only [go_sem, ↓reduceIte ]
  intro b16 hb16
  simp (disch := omega) only [go_sem, ↓reduceIte ]
  have stp := ((((st.trans s6).trans s7).trans sa8).trans sa9).trans sb9
  have kd : Kp (fun _ => False) nb9 B9 (((((B9.new b16 #[.int .u32 0, .int .u8 0, .int .i64 0, .int .u16 0, .int .u16 0] 40).put b16 0 (.int .u32 201326592)).put b16 1 (.int .u8 24)).put b16 (1 + 1) (.int .i64 0)).put b16 (1 + 1 + 1) (.int .u16 0) |>.put b16 (1 + 1 + 1 + 1) (.int .u16 w)) := (by repeat first | exact Kp.refl _ _ _ | refine Kp.dropT ?_ (.inl (by omega)) | refine Kp.put ?_ (.inl (by omega)) | refine Kp.new ?_ (by omega) | refine Kp.put ?_ (.inr (by omega)) | refine Kp.newO ?_ (by omega) | refine Kp.setO ?_ (.inl (by omega)) | refine Kp.setO ?_ (.inr (by omega)) | refine Kp.trans0 ?_ (by assumption) (by omega) | refine Kp.transS ?_ (by assumption) (by omega) (fun b hb hT => by first | omega | (dsimp only at hT ⊢; omega) | (simp only at hT ⊢; omega))) 
  have bw : (((((B9.new b16 #[.int .u32 0, .int .u8 0, .int .i64 0, .int .u16 0, .int .u16 0] 40).put b16 0 (.int .u32 201326592)).put b16 1 (.int .u8 24)).put b16 (1 + 1) (.int .i64 0)).put b16 (1 + 1 + 1) (.int .u16 0) |>.put b16 (1 + 1 + 1 + 1) (.int .u16 w)).c b16 4 = some (.int .u16 w) := by simp (disch := omega) only [go_sem, ↓reduceIte ]
  have s10 := stp.still (nx2 := b16 + 1) kd (by omega)
  have k16 : c8 b16 = 0 := Classical.byContradiction fun hc => by have := sb9.a.k.rng b16 hc; omega
  have hb16l : b16 < b16 + 1 := by omega
  generalize (((((B9.new b16 #[.int .u32 0, .int .u8 0, .int .i64 0, .int .u16 0, .int .u16 0] 40).put b16 0 (.int .u32 201326592)).put b16 1 (.int .u8 24)).put b16 (1 + 1) (.int .i64 0)).put b16 (1 + 1 + 1) (.int .u16 0) |>.put b16 (1 + 1 + 1 + 1) (.int .u16 w)) = M at kd bw s10 ⊢
  refine (newer01_c ask 1 hask.1 hask.2 (by omega) (by omega) _ _).mono fun v M1 nm _ ⟨hv, hM, hnm⟩ => ?_
  subst hv; subst hM; subst hnm
  cases hnw : newI ask 1 with
  | true =>
    rw [hnw, if_pos rfl] at hwe
    subst hwe
    simp (disch := omega) only [go_sem, ↓reduceIte ]
    exact asks_end hp hs hx s10 o8 hn1 hlo hnx hk hb16l k16 bw
  | false =>
    rw [hnw, if_neg (by simp)] at hwe
    subst hwe
    simp (disch := omega) only [go_sem, ↓reduceIte ]
    exact asks_end hp hs hx s10 o8 hn1 hlo hnx hk hb16l k16 bw
end Go.Proofs.YtngnbafididkcaaGreat
