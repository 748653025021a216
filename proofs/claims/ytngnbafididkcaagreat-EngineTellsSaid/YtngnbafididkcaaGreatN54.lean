/- EngineTells: in our own logic: whole. -/
import Derived.Test.YtngnbafididkcaaGreatN53
namespace Go.Proofs.YtngnbafididkcaaGreat
open Go.RowKit
set_option linter.unusedSimpArgs false

noncomputable def tlT0 : Code := ((Tryz.f8.body).getD .skip)
noncomputable def tlT7 : Code := codeAt [.T, .T, .T, .T, .T, .T, .T] ((Tryz.f8.body).getD .skip)
set_option maxHeartbeats 4000000 in
set_option maxRecDepth 20000 in
/-- Behind the second Select. -/
theorem tells_gone {lo nx nx0 nxx : Nat} {H H0 HH : AH} {pt : Nat} {e : Eng} {y : ELay} {col : Nat → Nat} {p s x now : Int} {gone safe : Bool} {L : List Rt} {rest : Env} (hp : 0 ≤ p ∧ p ≤ 255) (hx : 0 ≤ x ∧ x ≤ 60000) (hnow : 0 ≤ now ∧ now ≤ 255) (st : EngS lo nx0 H0 pt (fun _ => 0) e H nx y col)
    (o : OneE 96 96 e p (tOpt (tldOf 1 (updP p s x) 2)) none (some ⟨pfxA p, pfxN p, s, x + 96⟩) 2) (hhl : e.hello = 0) (hdue : e.due = true) (has : e.asks = []) (hlost : e.lost = []) (hsel : e.sel = L) (hL : L.Perm [ownR, wayR p s x]) (hlo : lo ≤ nxx) (hnx : nxx ≤ nx0) (hk : Kp (fun _ => False) nxx HH H0) :
    awp Tryz.prog lo L8 tlT7 (retQ Tryz.prog Tryz.f8 fun v H' nx' => v = .bool true ∧ nxx ≤ nx' ∧ Kp (fun _ => False) nxx HH H') ((0, .int .u16 x) :: (1, .int .u16 s) :: (2, .int .u8 p) :: (3, .bool safe) :: (4, .bool gone) :: (5, .int .u8 now) :: (13, .pointer (some ⟨pt, 0, none⟩)) :: rest) H nx := by
  have hcode : tlT7 = .seq (codeAt [.T, .T, .T, .T, .T, .T, .T, .H] ((Tryz.f8.body).getD .skip)) tlT8 := rfl
  simp only [Tryz.f8, Option.getD_some, codeAt_H, codeAt_T, codeAt_I, codeAt_L, codeAt_C, codeAt_P, codeAt_nil] at hcode
  rw [hcode]
  clear hcode
  have hle := st.le
  cases gone with
  | false =>
    simp (disch := omega) only [go_sem, ↓reduceIte ]
    exact tells_mid hp hx hnow st o.id o.lk hhl hdue has (.inl ⟨rfl, hlost, by rw [hsel]; exact hL⟩) hlo hnx hk
  | true =>
    simp (disch := omega) only [go_sem, ↓reduceIte ]
    refine (etell0_c st.a 3 (by omega) o.pre.ll o.pre.sl (by rw [has]; simp)).mono fun v H8 nx8 _ ⟨v8, y8, c8, own8, hv, s8, hsl8, how8, hko8⟩ => ?_
    subst hv
    have o2 := o.tell
    have t2 : (tellE e).asks = [] ∧ (tellE e).lost = [] ∧ (tellE e).sel = L ∧ (tellE e).hello = 0 := by
      rw [tellE_eq]
      refine ⟨rfl, ?_, hsel, hhl⟩
      show (if e.due = true then [] else e.lost) = []
      rw [if_pos hdue]
    generalize tellE e = e2 at s8 o2 t2
    have hone8 := hsl8.one
    have hx8 := s8.le
    simp (disch := omega) only [go_sem, ↓reduceIte , hone8]
    refine (update17_c p s 65535 hp.1 hp.2).mono fun v A1 na1 _ ⟨hv, ha1, ka1⟩ => ?_
    subst hv
    unfold Prt.cells
    simp (disch := omega) only [go_sem, ↓reduceIte ]
    refine buildSQ_all (n := 1) [.agg #[.int .u8 3, .int .u64 0, .int .i64 3, .int .u32 (pfxA p), .int .u8 (pfxN p), .int .u16 s, .int .u16 65535]] sl34 zero32 (by omega) (by omega) rfl (by simp [cells_agg]) fun f1 hf1 => ?_
    have hlit1 := pt_lit A1 f1 32 (updP p s 65535)
    have sa1 := ((EngS.refl s8.a).still ka1 ha1).still (nx2 := f1 + 1) (part_fresh A1 f1 (updP p s 65535) na1 hf1) (by omega)
    simp (disch := omega) only [go_sem, ↓reduceIte ]
    refine (hearUpd_c (fr := 1) (x := updP p s 65535) sa1.a hlit1 (fun c hc => Classical.byContradiction fun hz => by have := s8.a.k.rng c hz; omega) (upd_ok hp.1 hp.2) rfl (by omega) 2 (by omega) (by rw [o2.st]; omega) o2.hok (by omega)).mono fun v B1 nb1 _ ⟨hv, yb1, cb1, sb1⟩ => ?_
    subst hv
    have t3 : (hearE noRq 1 0 2 [updP p s 65535] e2).asks = [] ∧ (hearE noRq 1 0 2 [updP p s 65535] e2).lost = [] ∧ (hearE noRq 1 0 2 [updP p s 65535] e2).sel = L ∧ (hearE noRq 1 0 2 [updP p s 65535] e2).hello = 0 := by rw [o2.upd hp.1 hp.2 (.inl rfl)]; exact t2
    have o3 := o2.hear1 hp.1 hp.2 (by omega) (s := s) (m := 65535) (by omega) 2
    generalize hearE noRq 1 0 2 [updP p s 65535] e2 = e3 at sb1 o3 t3
    have hb1 := sb1.le
    simp (disch := omega) only [go_sem, ↓reduceIte ]
    refine (eselect_c sb1.a o3.pre).mono fun v A4 na4 _ ⟨e4, L4, ks4, es14, es24, ts4, tb4, d4, l24, y4, c4, ow4, hse4, sa4, hsl4, how4, hko4⟩ => ?_
    obtain ⟨o4, hr4, hL4⟩ := o3.sel hp.1 hp.2 (by omega) hse4
    have hts : e3.ts.Perm [] := o3.tw.pm
    have hL4e : L4 = [ownR] := List.perm_singleton.1 hL4
    have hq4 : e4.asks = [] := by rw [hse4.asks0 hts]; exact t3.1
    obtain ⟨u1, u2, u3, u4⟩ := hse4.outs
    have hch : d4 = true ∧ l24 = lostE [ownR] L := by
      rcases hse4.ch with ⟨h, _, _⟩ | ⟨_, h2, h3⟩
      · exfalso
        have h4 := congrArg List.length h
        rw [hL4e, t3.2.2.1, hL.length_eq] at h4
        simp at h4
      · exact ⟨h2, by rw [h3, hL4e, t3.2.1, t3.2.2.1]; rfl⟩
    have hlw : lostE [ownR] L = [(pfxA p, pfxN p)] := lostE_way hL (pfx_own p hp.1 hp.2)
    have hn4 := hsl4.one
    have ha4 := sa4.le
    have st4 := (((st.trans s8).trans sa1).trans sb1).trans sa4
    simp (disch := omega) only [go_sem, ↓reduceIte , hn4]
    exact tells_mid hp hx hnow st4 o4.id o4.lk (by rw [u1]; exact t3.2.2.2) (by rw [u3]; exact hch.1) hq4 (.inr ⟨rfl, by rw [u4, hch.2, hlw], by rw [u2, hL4e]⟩) hlo hnx hk
set_option maxHeartbeats 4000000 in
set_option maxRecDepth 20000 in
theorem engineTells_c {lo nx : Nat} {H : AH} (x s p : Int) (safe gone : Bool) (now : Int) (hx : 0 ≤ x ∧ x ≤ 65535) (_hs : 0 ≤ s ∧ s ≤ 65535) (hp : 0 ≤ p ∧ p ≤ 255) (hnow : 0 ≤ now ∧ now ≤ 255) : ACalls Tryz.prog lo 8 #[.int .u16 x, .int .u16 s, .int .u8 p, .bool safe, .bool gone, .int .u8 now] H nx (fun v H' nx' => v = .bool true ∧ nx ≤ nx' ∧ Kp (fun _ => False) nx H H') := by
  refine ACalls.withLo fun hlo => ?_
  refine acalls_of_awp (c := tlT0) L8 Tryz.func8 rfl (by kernel_rfl) ?_
  have hcode : tlT0 = .seq (codeAt [.H] ((Tryz.f8.body).getD .skip)) (.seq (codeAt [.T, .H] ((Tryz.f8.body).getD .skip)) (.seq (codeAt [.T, .T, .H] ((Tryz.f8.body).getD .skip)) (.seq (codeAt [.T, .T, .T, .H] ((Tryz.f8.body).getD .skip)) (.seq (codeAt [.T, .T, .T, .T, .H] ((Tryz.f8.body).getD .skip)) (.seq (codeAt [.T, .T, .T, .T, .T, .H] ((Tryz.f8.body).getD .skip)) (.seq (codeAt [.T, .T, .T, .T, .T, .T, .H] ((Tryz.f8.body).getD .skip)) tlT7)))))) := rfl
  simp only [Tryz.f8, Option.getD_some, codeAt_H, codeAt_T, codeAt_I, codeAt_L, codeAt_C, codeAt_P, codeAt_nil] at hcode
  rw [hcode]
  clear hcode
  simp (disch := omega) only [go_sem, ↓reduceIte ]
  refine awake17_c.mono fun v H1 nx1 _ ⟨hv, hx1, hk1⟩ => ?_
  subst hv
  by_cases hbig : 60000 < x
  · simp (disch := omega) only [go_sem, ↓reduceIte ]
    refine awake17_c.mono fun v H2 nx2 _ ⟨hv, hx2, hk2⟩ => ?_
    subst hv
    simp (disch := omega) only [go_sem, ↓reduceIte ]
    exact ⟨by omega, hk1.trans (U := fun _ => False) hk2 (by omega) (fun _ _ h => h) (fun _ _ h => h)⟩
  simp (disch := omega) only [go_sem, ↓reduceIte ]
  refine (met17_c 96 96).mono fun v H2 nx2 _ ⟨q, y2, col, hv, st⟩ => ?_
  subst hv
  have hx2 := st.le
  have o0 := OneE.start 96 96 p (by omega) (by omega)
  simp (disch := omega) only [go_sem, ↓reduceIte ]
  refine (eselect_c st.a o0.pre).mono fun v A2 na2 _ ⟨e2, L2, ks2, es12, es22, ts2, tb2, d2, l22, y2, c2, ow2, hse2, sa2, hsl2, how2, hko2⟩ => ?_
  obtain ⟨o2, _, hL2⟩ := o0.sel hp.1 hp.2 (by omega) hse2
  have o2 : OneE 96 96 e2 p none none none 1 := o2
  have hL2e : L2 = [ownR] := List.perm_singleton.1 hL2
  obtain ⟨ha2, hl2⟩ := hse2.bare rfl rfl rfl rfl
  obtain ⟨u21, u22, u23, u24⟩ := hse2.outs
  have hh2 : e2.hello = 0 := by rw [u21]; rfl
  have hn2 := hsl2.one
  have hxa2 := sa2.le
  simp (disch := omega) only [go_sem, ↓reduceIte , hn2]
  refine (etell0_c sa2.a 1 (by omega) o2.pre.ll o2.pre.sl (by rw [ha2]; simp)).mono fun v H8 nx8 _ ⟨v8, y8, c8, own8, hv, s8, hsl8, how8, hko8⟩ => ?_
  subst hv
  have o3 := o2.tell
  have t3 : (tellE e2).asks = [] ∧ (tellE e2).lost = [] ∧ (tellE e2).sel = [ownR] ∧ (tellE e2).hello = 0 := by
    rw [tellE_eq]
    refine ⟨rfl, ?_, by show e2.sel = _; rw [u22, hL2e], hh2⟩
    show (if e2.due = true then [] else e2.lost) = []
    rw [hl2]
    split <;> rfl
  generalize tellE e2 = e3 at s8 o3 t3
  have hone8 := hsl8.one
  have hx8 := s8.le
  simp (disch := omega) only [go_sem, ↓reduceIte , hone8]
  refine (update17_c p s x hp.1 hp.2).mono fun v A1 na1 _ ⟨hv, ha1, ka1⟩ => ?_
  subst hv
  unfold Prt.cells
  simp (disch := omega) only [go_sem, ↓reduceIte ]
  refine buildSQ_all (n := 1) [.agg #[.int .u8 3, .int .u64 0, .int .i64 3, .int .u32 (pfxA p), .int .u8 (pfxN p), .int .u16 s, .int .u16 x]] sl34 zero32 (by omega) (by omega) rfl (by simp [cells_agg]) fun f1 hf1 => ?_
  have hlit1 := pt_lit A1 f1 32 (updP p s x)
  have sa1 := ((EngS.refl s8.a).still ka1 ha1).still (nx2 := f1 + 1) (part_fresh A1 f1 (updP p s x) na1 hf1) (by omega)
  simp (disch := omega) only [go_sem, ↓reduceIte ]
  refine (hearUpd_c (fr := 1) (x := updP p s x) sa1.a hlit1 (fun c hc => Classical.byContradiction fun hz => by have := s8.a.k.rng c hz; omega) (upd_ok hp.1 hp.2) rfl (by omega) 2 (by omega) (by rw [o3.st]; omega) o3.hok (by omega)).mono fun v B1 nb1 _ ⟨hv, yb1, cb1, sb1⟩ => ?_
  subst hv
  have t4 : (hearE noRq 1 0 2 [updP p s x] e3).asks = [] ∧ (hearE noRq 1 0 2 [updP p s x] e3).lost = [] ∧ (hearE noRq 1 0 2 [updP p s x] e3).sel = [ownR] ∧ (hearE noRq 1 0 2 [updP p s x] e3).hello = 0 := by rw [o3.upd hp.1 hp.2 (.inl rfl)]; exact t3
  have o4 := o3.hear1 hp.1 hp.2 (by omega) (s := s) hx 2
  generalize hearE noRq 1 0 2 [updP p s x] e3 = e4 at sb1 o4 t4
  have hb1 := sb1.le
  simp (disch := omega) only [go_sem, ↓reduceIte ]
  refine (eselect_c sb1.a o4.pre).mono fun v A5 na5 _ ⟨e5, L5, ks5, es15, es25, ts5, tb5, d5, l25, y5, c5, ow5, hse5, sa5, hsl5, how5, hko5⟩ => ?_
  obtain ⟨o5, _, hL5⟩ := o4.sel hp.1 hp.2 (by omega) hse5
  have hw5 := ask_way o4 (by omega) (by simp [feasM])
  rw [hw5] at o5 hL5
  have o5 : OneE 96 96 e5 p (tOpt (tldOf 1 (updP p s x) 2)) none (some ⟨pfxA p, pfxN p, s, x + 96⟩) 2 := o5
  have hL5 : L5.Perm [ownR, wayR p s x] := hL5
  obtain ⟨u51, u52, u53, u54⟩ := hse5.outs
  have q5 : e5.asks = [] := by
    rw [hse5.asks1 (o4.ts1 (by omega)) o5.srt, show wantE e5.es (tldOf 1 (updP p s x) 2).addr (tldOf 1 (updP p s x) 2).len = _ from o5.mrk, if_pos (feasM_lt (by omega))]
    exact t4.1
  have hch : d5 = true ∧ l25 = [] := by
    rcases hse5.ch with ⟨h, _, _⟩ | ⟨_, h2, h3⟩
    · exfalso
      have h4 := congrArg List.length h
      rw [t4.2.2.1, hL5.length_eq] at h4
      simp at h4
    · exact ⟨h2, by rw [h3, t4.2.1, t4.2.2.1, lostE_own hL5]; rfl⟩
  have hn5 := hsl5.one
  have ha5 := sa5.le
  have st5 := ((((st.trans sa2).trans s8).trans sa1).trans sb1).trans sa5
  simp (disch := omega) only [go_sem, ↓reduceIte , hn5]
  exact tells_gone hp (by omega) hnow st5 o5 (by rw [u51]; exact t4.2.2.2) (by rw [u53]; exact hch.1) q5 (by rw [u54]; exact hch.2) u52 hL5 (by omega) (by omega) hk1
end Go.Proofs.YtngnbafididkcaaGreat
