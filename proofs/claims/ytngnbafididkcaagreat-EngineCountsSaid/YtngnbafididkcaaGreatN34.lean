/- EngineCounts: in our own logic. -/
import Derived.Test.YtngnbafididkcaaGreatN33
import Derived.Test.YtngnbafididkcaaGreatN21
import Derived.Test.YtngnbafididkcaaGreatN30
namespace Go.Proofs.YtngnbafididkcaaGreat
open Go.RowKit
set_option linter.unusedSimpArgs false

structure SmE (v1 v2 : Value) (n : Nat) (H0 : AH) (nx0 : Nat) (m : Nat) (env : Env) (H : AH) (nx i : Nat) : Prop where
  hm : m = n - i
  hi : i ≤ n
  henv : env = [(0, v1), (1, v2), (5, .int .i64 i)]
  hH : H = H0
  hx : nx = nx0
set_option maxRecDepth 20000 in
theorem sameE_c {lo : Nat} {H : AH} {nx : Nat} {v1 v2 : Value} {L : List Rt} {own1 own2 : Nat} (h1 : SlA nx H 5 v1 L.length (rtCells L) own1) (h2 : SlA nx H 5 v2 L.length (rtCells L) own2) (hl : L.length ≤ 1000000) :
    ACalls Tryz.prog lo 26 #[v1, v2] H nx (fun v H' nx' => v = .bool true ∧ nx' = nx ∧ H' = H) := by
  refine acalls_of_awp L26 Tryz.func26 rfl (by kernel_rfl) ?_
  obtain ⟨a1, c1, rfl⟩ := h1.form
  obtain ⟨a2, c2, rfl⟩ := h2.form
  simp (disch := omega) only [go_sem, ↓reduceIte ]
  refine awp_loop (fun m env H1 nx1 => ∃ i, SmE (.slice a1 L.length c1) (.slice a2 L.length c2) L.length H nx m env H1 nx1 i) L.length ⟨0, ⟨rfl, by omega, rfl, rfl, rfl⟩⟩ (fun m env H1 nx1 ⟨i, hI⟩ hn => ?_)
  obtain ⟨hm, hi, henv, hH, hx⟩ := hI
  subst henv; subst hH; subst hx
  by_cases hil : i < L.length
  · obtain ⟨x, hx0⟩ : ∃ x, L[i]? = some x := ⟨_, List.getElem?_eq_getElem hil⟩
    obtain ⟨g1, o1, cp1, hv1, hg1⟩ := h1.open (by omega)
    cases hv1
    obtain ⟨g2, o2, cp2, hv2, hg2⟩ := h2.open (by omega)
    cases hv2
    have ld1 := rt_load h1 hx0
    have ld2 := rt_load h2 hx0
    unfold Rt.cells at ld1 ld2
    simp (disch := omega) only [go_sem, ↓reduceIte ]
    refine awp_draw ord26x6 (by kernel_rfl) ?_
    simp (disch := omega) only [go_sem, ↓reduceIte , ord26x6, ld1, ld2]
    exact ⟨L.length - (i + 1), by omega, i + 1, ⟨rfl, by omega, rfl, rfl, rfl⟩⟩
  · simp (disch := omega) only [go_sem, ↓reduceIte ]
/-- An act, as it lies. -/
structure ActF where
  p : Int
  via : Int
  met : Int
  seq : Int
  lat : Int
def ActF.cells (x : ActF) : List Value := [.int .u8 x.p, .int .u8 x.via, .int .u8 x.met, .int .u8 x.seq, .int .u8 x.lat]
def actF (l : List ActF) : List Value := l.flatMap ActF.cells
structure ActFOk (x : ActF) : Prop where
  p : 0 ≤ x.p ∧ x.p ≤ 255
  via : 0 ≤ x.via ∧ x.via ≤ 255
  met : 0 ≤ x.met ∧ x.met ≤ 255
  seq : 0 ≤ x.seq ∧ x.seq ≤ 255
  lat : 0 ≤ x.lat ∧ x.lat ≤ 255
theorem actF_cell {nx : Nat} {H : AH} {g off c n own : Nat} {l : List ActF} (hs : SlA nx H 5 (.slice (some ⟨g, off, none⟩) n c) n (actF l) own) {i : Nat} {x : ActF} (hi : l[i]? = some x) (j : Nat) (hj : j < 5) : H.c g (off + i * 5 + j) = x.cells[j]? := by
  have h5 := flat_get (f := ActF.cells) (n := 5) (fun _ => rfl) l i x hi j hj
  rw [show off + i * 5 + j = off + (5 * i + j) by omega]
  obtain ⟨u, hu⟩ : ∃ u, x.cells[j]? = some u := ⟨_, List.getElem?_eq_getElem hj⟩
  rw [hu] at h5 ⊢
  exact hs.cells.1 _ _ h5
structure MnI (lo nx0 : Nat) (H0 : AH) (p : Nat) (col0 : Nat → Nat) (st bd : Int) (sv : Value) (n : Nat) (m : Nat) (env : Env) (H : AH) (nx i : Nat) (e : Eng) (y : ELay) (col : Nat → Nat) : Prop where
  hm : m = n - i
  hi : i ≤ n
  henv : env = [(0, .int .u8 st), (1, .int .u8 bd), (2, sv), (7, .pointer (some ⟨p, 0, none⟩)), (8, .int .i64 i)]
  s : EngS lo nx0 H0 p col0 e H nx y col
  mn : ManyE e i
noncomputable def cnL1 : Code := codeAt [.T, .T, .T, .H, .T, .I] ((Tryz.f7.body).getD .skip)
set_option maxHeartbeats 1000000 in
set_option maxRecDepth 20000 in
theorem cn_hear {lo nx0 : Nat} {H0 : AH} {q : Nat} {col0 : Nat → Nat} {y0 : ELay} {st bd : Int} {sv : Value} {l : List ActF} {own : Nat} {K0 : Env → AH → Nat → Prop} {Q : Exit → Env → AH → Nat → Prop}
    (hs : SlA nx0 H0 5 sv l.length (actF l) own) (hso : ∀ b, b + 1 = own → col0 b = 0) (hok : ∀ x ∈ l, ActFOk x) (hl : l.length ≤ 20) (hA : EngA lo nx0 H0 q (metE 96 96 2) y0 col0)
    (hK : ∀ H nx e y col, EngS lo nx0 H0 q col0 e H nx y col → ManyE e l.length → K0 [(0, .int .u8 st), (1, .int .u8 bd), (2, sv), (7, .pointer (some ⟨q, 0, none⟩)), (8, .int .i64 l.length), (23, .bool false)] H nx) :
    awp Tryz.prog lo L7 cnL1 (blockQ 0 (thenQ K0 Q)) [(0, .int .u8 st), (1, .int .u8 bd), (2, sv), (7, .pointer (some ⟨q, 0, none⟩)), (8, .int .i64 (0 : Nat))] H0 nx0 := by
  have hcode : cnL1 = codeAt [.T, .T, .T, .H, .T, .I] ((Tryz.f7.body).getD .skip) := rfl
  simp only [Tryz.f7, Option.getD_some, codeAt_H, codeAt_T, codeAt_I, codeAt_L, codeAt_C, codeAt_P, codeAt_nil] at hcode
  rw [hcode]
  clear hcode
  refine awp_loop (fun m env H nx => ∃ i e y col, MnI lo nx0 H0 q col0 st bd sv l.length m env H nx i e y col) l.length ⟨0, _, y0, col0, ⟨by omega, by omega, rfl, EngS.refl hA, ManyE.start⟩⟩ (fun m env H nx ⟨i, e, y, col, hI⟩ hn => ?_)
  obtain ⟨hm, hi, henv, hst, hmn⟩ := hI
  subst henv
  obtain ⟨aa, ac, rfl⟩ := hs.form
  by_cases hlt : i < l.length
  · obtain ⟨g, off, cap, hv, hgo⟩ := hs.open (by omega)
    simp only [Value.slice.injEq, true_and] at hv
    obtain ⟨rfl, rfl⟩ := hv
    have hsn := hs.kp hst.kp hst.le (fun b hb => by rw [hso b hb]; simp)
    have hx0 : l[i]? = some l[i] := List.getElem?_eq_getElem hlt
    have hxo := hok l[i] (List.getElem_mem hlt)
    generalize l[i] = x at hx0 hxo
    have x0 := actF_cell hsn hx0 0 (by omega)
    have x2 := actF_cell hsn hx0 2 (by omega)
    simp only [ActF.cells, List.getElem?_cons_zero, List.getElem?_cons_succ, Nat.add_zero] at x0 x2
    have := hxo.p
    have := hxo.met
    have hnx := hst.le
    have hcast : ((i : Int) + 1) = ((i + 1 : Nat) : Int) := by omega
    simp (disch := omega) only [go_sem, ↓reduceIte ]
    refine awp_draw ord7x7 (by kernel_rfl) ?_
    simp (disch := omega) only [go_sem, ↓reduceIte , ord7x7, x0, x2]
    refine (update17_c x.p 5 x.met (by omega) (by omega)).mono fun v A na _ ⟨hv, ha, ka⟩ => ?_
    subst hv
    unfold Prt.cells
    simp (disch := omega) only [go_sem, ↓reduceIte , ord7x7]
    refine ⟨dkeep_kp ka, ?_⟩
    refine buildSQ_all (n := 1) [.agg #[.int .u8 3, .int .u64 0, .int .i64 3, .int .u32 (pfxA x.p), .int .u8 (pfxN x.p), .int .u16 5, .int .u16 x.met]] sl34 zero32 (by omega) (by omega) rfl (by simp [cells_agg]) fun f hf => ?_
    have hlit := pt_lit A f 32 (updP x.p 5 x.met)
    have sa := ((EngS.refl hst.a).still ka ha).still (nx2 := f + 1) (part_fresh A f (updP x.p 5 x.met) na hf) (by omega)
    have kf := ka.trans (U := fun _ => False) (part_fresh A f (updP x.p 5 x.met) na hf) ha (fun _ _ h => h) (fun _ _ h => h)
    simp (disch := omega) only [go_sem, ↓reduceIte ]
    refine ⟨dkeep_kp kf, ?_⟩
    refine (hearUpd_c (fr := 1) (x := updP x.p 5 x.met) sa.a hlit (fun c hc => Classical.byContradiction fun hz => by have := hst.a.k.rng c hz; omega) (upd_ok (by omega) (by omega)) rfl (by omega) 2 (by omega) (by rw [hmn.cn.2.1]; omega) hmn.hok (by omega)).mono fun v B nb _ ⟨hv, yb, cb, sb⟩ => ?_
    subst hv
    have mn' := hmn.hear (p := x.p) (m := x.met) (s := 5) (by omega) (by omega) (by omega) (by omega) (by omega)
    simp (disch := omega) only [go_sem, ↓reduceIte , ord7x7, hcast]
    exact ⟨dkeep_last (by kernel_rfl), l.length - (i + 1), by omega, i + 1, _, yb, cb, ⟨rfl, by omega, rfl, (hst.trans sa).trans sb, mn'⟩⟩
  · have ei : i = l.length := by omega
    subst ei
    simp (disch := omega) only [go_sem, ↓reduceIte ]
    exact hK _ _ _ _ _ hst hmn
structure BdI (lo nx0 : Nat) (H0 : AH) (p : Nat) (col0 : Nat → Nat) (e : Eng) (st bd : Int) (v9 : Value) (n : Nat) (m : Nat) (env : Env) (H : AH) (nx j : Nat) (y : ELay) (col : Nat → Nat) : Prop where
  hm : m = n - j
  hj : j ≤ n
  henv : env = [(0, .int .u8 st), (1, .int .u8 bd), (7, .pointer (some ⟨p, 0, none⟩)), (9, v9), (10, .int .i64 j)]
  s : EngS lo nx0 H0 p col0 { e with bad := j } H nx y col
noncomputable def cnL2 : Code := codeAt [.T, .T, .T, .T, .T, .T, .H, .T, .I] ((Tryz.f7.body).getD .skip)
set_option maxHeartbeats 1000000 in
set_option maxRecDepth 20000 in
theorem cn_bad {lo nx0 : Nat} {H0 : AH} {q : Nat} {col0 : Nat → Nat} {y0 : ELay} {e : Eng} {st bd : Int} {v9 : Value} {n : Nat} {K0 : Env → AH → Nat → Prop} {Q : Exit → Env → AH → Nat → Prop}
    (hA : EngA lo nx0 H0 q { e with bad := (0 : Nat) } y0 col0) (hb : 0 ≤ bd ∧ bd ≤ 255) (hn : (n : Int) = bd % 10)
    (hK : ∀ H nx y col, EngS lo nx0 H0 q col0 { e with bad := n } H nx y col → K0 [(0, .int .u8 st), (1, .int .u8 bd), (7, .pointer (some ⟨q, 0, none⟩)), (9, v9), (10, .int .i64 n), (53, .bool false)] H nx) :
    awp Tryz.prog lo L7 cnL2 (blockQ 2 (thenQ K0 Q)) [(0, .int .u8 st), (1, .int .u8 bd), (7, .pointer (some ⟨q, 0, none⟩)), (9, v9), (10, .int .i64 (0 : Nat))] H0 nx0 := by
  have hcode : cnL2 = codeAt [.T, .T, .T, .T, .T, .T, .H, .T, .I] ((Tryz.f7.body).getD .skip) := rfl
  simp only [Tryz.f7, Option.getD_some, codeAt_H, codeAt_T, codeAt_I, codeAt_L, codeAt_C, codeAt_P, codeAt_nil] at hcode
  rw [hcode]
  clear hcode
  refine awp_loop (fun m env H nx => ∃ j y col, BdI lo nx0 H0 q col0 e st bd v9 n m env H nx j y col) n ⟨0, y0, col0, ⟨by omega, by omega, rfl, EngS.refl hA⟩⟩ (fun m env H nx ⟨j, y, col, hI⟩ hnn => ?_)
  obtain ⟨hm, hj, henv, hst⟩ := hI
  subst henv
  by_cases hlt : j < n
  · have hcast : ((j : Int) + 1) = ((j + 1 : Nat) : Int) := by omega
    simp (disch := omega) only [go_sem, ↓reduceIte ]
    refine (ebad_c hst.a ⟨by show (0 : Int) ≤ j; omega, by show (j : Int) ≤ 1000000; omega⟩).mono fun v H2 nx2 _ ⟨hv, hn2, s2⟩ => ?_
    subst hv; subst hn2
    simp (disch := omega) only [go_sem, ↓reduceIte , hcast]
    refine ⟨n - (j + 1), by omega, j + 1, y, col, ⟨rfl, by omega, rfl, ?_⟩⟩
    have := hst.trans s2
    rw [← hcast]
    exact this
  · have ej : j = n := by omega
    subst ej
    simp (disch := omega) only [go_sem, ↓reduceIte ]
    exact hK _ _ _ _ hst
noncomputable def cnT7 : Code := codeAt [.T, .T, .T, .T, .T, .T, .T] ((Tryz.f7.body).getD .skip)
noncomputable def cnT4 : Code := codeAt [.T, .T, .T, .T] ((Tryz.f7.body).getD .skip)
set_option maxHeartbeats 1000000 in
set_option maxRecDepth 20000 in
/-- From what is told by itself on. -/
theorem cn_end {lo nx0 nx : Nat} {H0 H : AH} {q : Nat} {col : Nat → Nat} {y : ELay} {st bd : Int} {v9 : Value} {own9 k : Nat} {e0 e f : Eng} {L : List Rt} {ks : List (Int × Int)} {es1 es2 : List Ent} {ts' tb : List Tld} {d : Bool} {l2 : List (Int × Int)} {rest : Env}
    (hmn : ManyE e0 k) (hk20 : k ≤ 20) (hse : SelE e0 e L ks es1 es2 ts' tb d l2) (hst0 : 0 ≤ st ∧ st ≤ 255) (hb : 0 ≤ bd ∧ bd ≤ 255) (hf : f = { e with strange := 0 + st, bad := bd % 10 }) (hA : EngA lo nx H q f y col) (h9 : SlA nx H 5 v9 L.length (rtCells L) own9) (h9c : ∀ b, b + 1 = own9 → col b = 0) (hnx : nx0 ≤ nx) (hkp : Kp (fun _ => False) nx0 H0 H) (hcn : ∀ b, col b ≠ 0 → nx0 ≤ b) :
    awp Tryz.prog lo L7 cnT7 (retQ Tryz.prog Tryz.f7 fun v H' nx' => v = .bool true ∧ nx0 ≤ nx' ∧ Kp (fun _ => False) nx0 H0 H') ((0, .int .u8 st) :: (1, .int .u8 bd) :: (7, .pointer (some ⟨q, 0, none⟩)) :: (9, v9) :: rest) H nx := by
  have hcode : cnT7 = codeAt [.T, .T, .T, .T, .T, .T, .T] ((Tryz.f7.body).getD .skip) := rfl
  simp only [Tryz.f7, Option.getD_some, codeAt_H, codeAt_T, codeAt_I, codeAt_L, codeAt_C, codeAt_P, codeAt_nil] at hcode
  rw [hcode]
  clear hcode
  obtain ⟨g1, g2, g3, g4, g5, g6⟩ := hmn.sel (by omega) hse
  have he := hse.eq
  have hfid : f.id = 0 := by rw [hf, he]; exact hmn.id
  have hfst : f.strange = st := by rw [hf]; show 0 + st = st; omega
  have hfok : HOk f k := by rw [hf]; exact ⟨g6.uq, g6.le, g6.ln⟩
  have hfpre : EngPre f := by rw [hf]; exact ⟨g1.ow, g1.ok, g1.px, g1.sz, g1.lk, g1.lc, g1.al, g1.sl, g1.ll⟩
  simp (disch := omega) only [go_sem, ↓reduceIte ]
  refine (update17_c 0 9 0 (by omega) (by omega)).mono fun v A na _ ⟨hv, ha, ka⟩ => ?_
  subst hv
  unfold Prt.cells
  simp (disch := omega) only [go_sem, ↓reduceIte ]
  refine buildSQ_all (n := 1) [.agg #[.int .u8 3, .int .u64 0, .int .i64 3, .int .u32 (pfxA 0), .int .u8 (pfxN 0), .int .u16 9, .int .u16 0]] sl34 zero32 (by omega) (by omega) rfl (by simp [cells_agg]) fun f1 hf1 => ?_
  have hlit := pt_lit A f1 32 (updP 0 9 0)
  have sa := ((EngS.refl hA).still ka ha).still (nx2 := f1 + 1) (part_fresh A f1 (updP 0 9 0) na hf1) (by omega)
  have hE : hearE noRq 0 7 2 [updP 0 9 0] f = f := by unfold hearE; rw [if_pos hfid.symm]
  simp (disch := omega) only [go_sem, ↓reduceIte ]
  refine (ehear_c (ps := [updP 0 9 0]) (rq := noRq) (fr := 0) (strange := 7) (now := 2) sa.a hlit (fun c hc => Classical.byContradiction fun hz => by have := hA.k.rng c hz; omega) (fun z hz => by rw [List.mem_singleton] at hz; subst hz; exact upd_ok (by omega) (by omega)) (by omega) (by omega) (by rw [hfst]; omega) hfok (by simp; omega) (by simp) (fun _ _ => ⟨rfl, rfl, rfl⟩) (fun e z H nx y col hz h4 _ => by
    rw [List.mem_singleton] at hz
    subst hz
    cases h4)).mono fun v B nb _ ⟨hv, yb, cb, sb⟩ => ?_
  subst hv
  rw [hE] at sb
  simp (disch := omega) only [go_sem, ↓reduceIte ]
  refine (eselect_c sb.a hfpre).mono fun v C nc _ ⟨f', L2, ks2, fs1, fs2, us', ub, d2, lo2, yc, cc, owc, hse2, sc, hsl, how, hko⟩ => ?_
  have hL2 : L2 = L := sel_again hse hmn.told hmn.own hmn.id (by rw [hmn.es]; exact List.Pairwise.nil) g3 g4 hse2 (by rw [hf, he]) (by rw [hf, he]) (by rw [hf, he]) (by rw [hf, he]) (by rw [hf, he])
  subst hL2
  have hone := hsl.one
  have tot := (sa.trans sb).trans sc
  have h9' := h9.kp tot.kp tot.le (fun b hb => by rw [h9c b hb]; simp)
  have hone9 := h9'.one
  simp (disch := omega) only [go_sem, ↓reduceIte , hone, hone9]
  refine (sameE_c hsl h9' (by omega)).mono fun v D nd _ ⟨hv, hnd, hD⟩ => ?_
  subst hv; subst hnd; subst hD
  simp (disch := omega) only [go_sem, ↓reduceIte ]
  refine (ecounts_c sc.a).mono fun v E ne _ ⟨hxe, hke, hv⟩ => ?_
  subst hv
  have hcnt : f'.bad = bd % 10 ∧ f'.strange = st ∧ f'.full = 0 ∧ f'.noroom = 0 := by
    have := hmn.cn
    rw [hse2.eq, hf, he]
    exact ⟨rfl, by show 0 + st = st; omega, this.2.2.1, this.2.2.2⟩
  rw [hcnt.1, hcnt.2.1, hcnt.2.2.1, hcnt.2.2.2]
  have kt : Kp (fun _ => False) nx0 H0 D := hkp.trans (U := fun _ => False) tot.kp hnx (fun _ _ h => h) (fun b hb h => by have := hcn b h; omega)
  have htl := tot.le
  simp (disch := omega) only [go_sem, ↓reduceIte ]
  exact ⟨by omega, kt.trans (U := fun _ => False) hke (by omega) (fun _ _ h => h) (fun _ _ h => h)⟩
set_option maxHeartbeats 1000000 in
set_option maxRecDepth 20000 in
/-- From the first choice on. -/
theorem cn_mid {lo nx0 nx : Nat} {H0 H : AH} {q : Nat} {col : Nat → Nat} {y : ELay} {st bd : Int} {sv : Value} {k : Nat} {e0 : Eng} {rest : Env}
    (hmn : ManyE e0 k) (hk20 : k ≤ 20) (hst0 : 0 ≤ st ∧ st ≤ 255) (hb : 0 ≤ bd ∧ bd ≤ 255) (hA : EngA lo nx H q e0 y col) (hnx : nx0 ≤ nx) (hkp : Kp (fun _ => False) nx0 H0 H) (hcn : ∀ b, col b ≠ 0 → nx0 ≤ b) :
    awp Tryz.prog lo L7 cnT4 (retQ Tryz.prog Tryz.f7 fun v H' nx' => v = .bool true ∧ nx0 ≤ nx' ∧ Kp (fun _ => False) nx0 H0 H') ((0, .int .u8 st) :: (1, .int .u8 bd) :: (2, sv) :: (7, .pointer (some ⟨q, 0, none⟩)) :: rest) H nx := by
  have hcode : cnT4 = .seq (codeAt [.T, .T, .T, .T, .H] ((Tryz.f7.body).getD .skip)) (.seq (codeAt [.T, .T, .T, .T, .T, .H] ((Tryz.f7.body).getD .skip)) (.seq (.seq (codeAt [.T, .T, .T, .T, .T, .T, .H, .H] ((Tryz.f7.body).getD .skip)) (.block 2 cnL2)) cnT7)) := rfl
  simp only [Tryz.f7, Option.getD_some, codeAt_H, codeAt_T, codeAt_I, codeAt_L, codeAt_C, codeAt_P, codeAt_nil] at hcode
  rw [hcode]
  clear hcode
  simp (disch := omega) only [go_sem, ↓reduceIte ]
  refine (eselect_c hA hmn.pre).mono fun v A na _ ⟨e, L, ks, es1, es2, ts', tb, d, l2, ya, ca, owa, hse, sa, hsl, how, hko⟩ => ?_
  obtain ⟨g1, g2, g3, g4, g5, g6⟩ := hmn.sel (by omega) hse
  have he := hse.eq
  have hone := hsl.one
  have hid : e.id = 0 := by rw [he]; exact hmn.id
  have hstr : e.strange = 0 := by rw [he]; exact hmn.cn.2.1
  have hbad : e.bad = 0 := by rw [he]; exact hmn.cn.1
  have hlk : (getA 1 e.lk).isSome = true := by rw [he]; show (getA 1 e0.lk).isSome = true; rw [hmn.lk]; rfl
  have hE : hearE noRq 1 st 2 [] e = { e with strange := 0 + st, bad := (0 : Nat) } := by
    unfold hearE
    rw [if_neg (by omega)]
    obtain ⟨l, hl⟩ := Option.isSome_iff_exists.1 hlk
    rw [hl, List.foldl_nil, hstr]
    show ({ e with strange := 0 + st } : Eng) = { e with strange := 0 + st, bad := (0 : Nat) }
    rw [show ((0 : Nat) : Int) = e.bad from hbad.symm]
  simp (disch := omega) only [go_sem, ↓reduceIte , hone]
  refine (ehear_c (ps := []) (rq := noRq) (fr := 1) (strange := st) (now := 2) (own := 0) sa.a (SlA.nil _ _ _) (fun c hc => by omega) (by simp) (by omega) (by omega) (by omega) g6 (by simp; omega) (by simp) (fun _ _ => ⟨rfl, rfl, rfl⟩) (fun e z H nx y col hz => by cases hz)).mono fun v' B nb _ ⟨hv, yb, cb, sb⟩ => ?_
  subst hv
  rw [hE] at sb
  obtain ⟨n, hn⟩ : ∃ n : Nat, (n : Int) = bd % 10 := ⟨(bd % 10).toNat, by omega⟩
  simp (disch := omega) only [go_sem, ↓reduceIte ]
  refine cn_bad (e := { e with strange := 0 + st }) sb.a hb hn (fun H3 nx3 y3 c3 s3 => ?_)
  have tot := (sa.trans sb).trans s3
  have t2 := sb.trans s3
  have kt : Kp (fun _ => False) nx0 H0 H3 := hkp.trans (U := fun _ => False) tot.kp hnx (fun _ _ h => h) (fun b hb h => by have := hcn b h; omega)
  have hz : ∀ b, b + 1 = owa → c3 b = 0 := fun b hb => Classical.byContradiction fun hc => by
    rcases t2.fp b hc with h | h
    · exact h (hko b hb)
    · have := hsl.le
      omega
  have htl := tot.le
  rw [hn] at s3
  exact cn_end hmn hk20 hse hst0 hb rfl s3.a (hsl.kp t2.kp t2.le (fun b hb => by rw [hko b hb]; simp)) hz (by omega) kt (fun b hb => by
    rcases tot.fp b hb with h | h
    · exact hcn b h
    · omega)
noncomputable def cnT0 : Code := (Tryz.f7.body).getD .skip
set_option maxHeartbeats 1000000 in
set_option maxRecDepth 20000 in
theorem engineCounts_c {lo nx : Nat} {H : AH} (st bd : Int) {sv : Value} {l : List ActF} {own : Nat} (hs : SlA nx H 5 sv l.length (actF l) own) (hok : ∀ x ∈ l, ActFOk x) (hst : 0 ≤ st ∧ st ≤ 255) (hb : 0 ≤ bd ∧ bd ≤ 255) : ACalls Tryz.prog lo 7 #[.int .u8 st, .int .u8 bd, sv] H nx (fun v H' nx' => v = .bool true ∧ nx ≤ nx' ∧ Kp (fun _ => False) nx H H') := by
  refine ACalls.withLo fun hlo => ?_
  refine acalls_of_awp (c := cnT0) L7 Tryz.func7 rfl (by kernel_rfl) ?_
  have hcode : cnT0 = .seq (codeAt [.H] ((Tryz.f7.body).getD .skip)) (.seq (codeAt [.T, .H] ((Tryz.f7.body).getD .skip)) (.seq (codeAt [.T, .T, .H] ((Tryz.f7.body).getD .skip)) (.seq (.seq (codeAt [.T, .T, .T, .H, .H] ((Tryz.f7.body).getD .skip)) (.block 0 cnL1)) cnT4))) := rfl
  simp only [Tryz.f7, Option.getD_some, codeAt_H, codeAt_T, codeAt_I, codeAt_L, codeAt_C, codeAt_P, codeAt_nil] at hcode
  rw [hcode]
  clear hcode
  have hmax := hs.maxLen
  obtain ⟨va, vc, rfl⟩ := hs.form
  simp (disch := omega) only [go_sem, ↓reduceIte ]
  refine awake17_c.mono fun v H1 nx1 _ ⟨hv, hx1, hk1⟩ => ?_
  subst hv
  by_cases hbig : 20 < l.length
  · simp (disch := omega) only [go_sem, ↓reduceIte ]
    refine awake17_c.mono fun v H2 nx2 _ ⟨hv, hx2, hk2⟩ => ?_
    subst hv
    simp (disch := omega) only [go_sem, ↓reduceIte ]
    exact ⟨by omega, hk1.trans (U := fun _ => False) hk2 (by omega) (fun _ _ h => h) (fun _ _ h => h)⟩
  simp (disch := omega) only [go_sem, ↓reduceIte ]
  refine (met17_c 96 96).mono fun v H2 nx2 _ ⟨q, y2, col, hv, s2⟩ => ?_
  subst hv
  have hx2 := s2.le
  have k2 : Kp (fun _ => False) nx H H2 := hk1.trans (U := fun _ => False) s2.kp0 (by omega) (fun _ _ h => h) (fun _ _ h => h)
  have hc2 : ∀ b, col b ≠ 0 → nx1 ≤ b := fun b hb => by
    rcases s2.fp b hb with h | h
    · exact absurd rfl h
    · exact h
  have hsle := hs.le
  simp (disch := omega) only [go_sem, ↓reduceIte ]
  refine cn_hear (hs.kp k2 (by omega) (by simp)) (fun b hb => Classical.byContradiction fun hc => by have := hc2 b hc; omega) hok (by omega) s2.a (fun H3 nx3 e3 y3 c3 s3 m3 => ?_)
  have hx3 := s3.le
  have kt : Kp (fun _ => False) nx H H3 := k2.trans (U := fun _ => False) s3.kp (by omega) (fun _ _ h => h) (fun b hb h => by have := hc2 b h; omega)
  exact cn_mid m3 (by omega) hst hb s3.a (by omega) kt (fun b hb => by
    rcases s3.fp b hb with h | h
    · have := hc2 b h; omega
    · omega)
end Go.Proofs.YtngnbafididkcaaGreat
