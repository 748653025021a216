/- EngineForgets: in our own logic. -/
import Derived.Test.YtngnbafididkcaaGreatN59
import Derived.Test.YtngnbafididkcaaGreatK1
namespace Go.Proofs.YtngnbafididkcaaGreat
open Go.RowKit
set_option linter.unusedSimpArgs false

theorem keys12 {ks : List Int} {a b : Lnk} (h : ks.Perm ([(1, a), (2, b)].map (fun x : Int × Lnk => x.1))) (hs : ks.Pairwise (· ≤ ·)) : ks = [1, 2] := by
  have h : ks.Perm [1, 2] := h
  refine List.Perm.eq_of_pairwise (le := fun a b : Int => a ≤ b) (fun a b _ _ h1 h2 => by omega) hs (by simp) h
theorem wf_two {a b : Lnk} : ∀ z ∈ [((1 : Int), a), (2, b)], (Lit.int .i64 z.1).wf = true := fun z hz => by
  simp only [List.mem_cons, List.not_mem_nil, or_false] at hz
  rcases hz with rfl | rfl
  · show (Lit.int .i64 1).wf = true
    decide
  · show (Lit.int .i64 2).wf = true
    decide
noncomputable def fgT11 : Code := codeAt [.T, .T, .T, .T, .T, .T, .T, .T, .T, .T, .T] ((Tryz.f11.body).getD .skip)
set_option maxHeartbeats 1000000 in
set_option maxRecDepth 20000 in
theorem forgets_end {lo nx nxx : Nat} {M HH : AH} {c1 c2 : Int} {v : Value} {own : Nat} {rest : Env} (hs : SlA nx M 7 v 2 (ptCells [⟨2, 0, 1, 0, 0, 0, c1⟩, ⟨2, 0, 2, 0, 0, 0, c2⟩]) own) (h1 : c1 = 65535) (hnx : nxx ≤ nx) (hk : Kp (fun _ => False) nxx HH M) :
    awp Tryz.prog lo L11 fgT11 (retQ Tryz.prog Tryz.f11 fun v H' nx' => v = .bool true ∧ nxx ≤ nx' ∧ Kp (fun _ => False) nxx HH H') ((9, .bool true) :: (12, .bool false) :: (13, v) :: (14, .int .u16 c2) :: rest) M nx := by
  have hcode : fgT11 = codeAt [.T, .T, .T, .T, .T, .T, .T, .T, .T, .T, .T] ((Tryz.f11.body).getD .skip) := rfl
  simp only [Tryz.f11, Option.getD_some, codeAt_H, codeAt_T, codeAt_I, codeAt_L, codeAt_C, codeAt_P, codeAt_nil] at hcode
  rw [hcode]
  clear hcode
  obtain ⟨g, off, cap, hv, hgo⟩ := hs.open (by omega)
  subst hv; subst h1
  have d0 : M.c g (off + Int.toNat 0 * 7 + 2) = some (.int .i64 1) := hs.cells.1 2 _ rfl
  have d1 : M.c g (off + Int.toNat 0 * 7 + 6) = some (.int .u16 65535) := hs.cells.1 6 _ rfl
  have d2 : M.c g (off + Int.toNat 1 * 7 + 2) = some (.int .i64 2) := hs.cells.1 9 _ rfl
  have d3 : M.c g (off + Int.toNat 1 * 7 + 6) = some (.int .u16 c2) := hs.cells.1 13 _ rfl
  simp (disch := omega) only [go_sem, ↓reduceIte , d0, d1, d2, d3]
  exact ⟨hnx, hk⟩
/-- Within the loop. -/
structure FgI (lo nx0 : Nat) (H0 : AH) (pt : Nat) (p x : Int) (other : Bool) (m : Nat) (env : Env) (H : AH) (nx k : Nat) (e : Eng) (y : ELay) (col : Nat → Nat) : Prop where
  hm : m = 37 - k
  hk : k ≤ 37
  henv : env = [(1, .int .u8 p), (2, .bool other), (7, .pointer (some ⟨pt, 0, none⟩)), (9, .bool true), (10, .int .u64 (3 + (k : Int)))]
  st : EngS lo nx0 H0 pt (fun _ => 0) e H nx y col
  o : OneL [(1, lkA k), (2, lkB other k)] e p (tOpt (tldOf 1 (updP p 5 x) 2)) none (k + 1)
  hr : k = 37 → routeE e (pfxA p) (pfxN p) = none
noncomputable def fgL : Code := codeAt [.T, .T, .T, .T, .T, .T, .H, .T, .I] ((Tryz.f11.body).getD .skip)
set_option maxHeartbeats 4000000 in
set_option maxRecDepth 20000 in
theorem forgets_loop {lo nx nx0 : Nat} {H H0 : AH} {pt : Nat} {e : Eng} {y : ELay} {col : Nat → Nat} {p x : Int} {other : Bool} {K0 : Env → AH → Nat → Prop} {Q : Exit → Env → AH → Nat → Prop} (hp : 0 ≤ p ∧ p ≤ 255) (st : EngS lo nx0 H0 pt (fun _ => 0) e H nx y col) (o : OneL [(1, lkA 0), (2, lkB other 0)] e p (tOpt (tldOf 1 (updP p 5 x) 2)) none 1)
    (hK : ∀ e H nx y col, EngS lo nx0 H0 pt (fun _ => 0) e H nx y col → OneL [(1, lkA 37), (2, lkB other 37)] e p (tOpt (tldOf 1 (updP p 5 x) 2)) none 38 → routeE e (pfxA p) (pfxN p) = none → K0 [(1, .int .u8 p), (2, .bool other), (7, .pointer (some ⟨pt, 0, none⟩)), (9, .bool true), (10, .int .u64 (3 + ((37 : Nat) : Int))), (40, .bool false)] H nx) :
    awp Tryz.prog lo L11 fgL (blockQ 0 (thenQ K0 Q)) [(1, .int .u8 p), (2, .bool other), (7, .pointer (some ⟨pt, 0, none⟩)), (9, .bool true), (10, .int .u64 (3 + ((0 : Nat) : Int)))] H nx := by
  have hcode : fgL = codeAt [.T, .T, .T, .T, .T, .T, .H, .T, .I] ((Tryz.f11.body).getD .skip) := rfl
  simp only [Tryz.f11, Option.getD_some, codeAt_H, codeAt_T, codeAt_I, codeAt_L, codeAt_C, codeAt_P, codeAt_nil] at hcode
  rw [hcode]
  clear hcode
  refine awp_loop (fun m env H nx => ∃ k e y col, FgI lo nx0 H0 pt p x other m env H nx k e y col) 37 ⟨0, e, y, col, ⟨by omega, by omega, rfl, st, o, fun h => by omega⟩⟩ (fun m env H nx ⟨k, e, y, col, hI⟩ hn => ?_)
  obtain ⟨hm, hk, henv, stx, o, hr⟩ := hI
  subst henv
  by_cases hlt : k < 37
  · have hcast : 3 + (k : Int) + 1 = 3 + ((k + 1 : Nat) : Int) := by omega
    have oa : OkL (lkA k) := okL_iff (lkA_ok k (by omega))
    have oa' : OkL (tickL (3 + (k : Int)) (lkA k)) := okL_iff (lkA_ok (k + 1) (by omega))
    have hobk := lkB_ok other k (by omega)
    have hobk' := lkB_ok other (k + 1) (by omega)
    have htil : ∀ t, tOpt (tldOf 1 (updP p 5 x) 2) = some t → 3 + (k : Int) < t.til := fun t ht => by
      rw [tOpt_eq ht]
      show 3 + (k : Int) < 2 + 50
      omega
    have hle := stx.le
    cases other with
    | false =>
      have hB : lkB false (k + 1) = tickL (3 + (k : Int)) (lkB false k) := by
        show tickL _ (if _ then _ else _) = _
        rw [if_neg (by simp)]
      have ob' := hobk'
      rw [hB] at ob'
      simp (disch := omega) only [go_sem, ↓reduceIte ]
      refine (etick_c stx.a (3 + (k : Int)) (by omega) (by rw [o.lk]; simp) (by rw [o.lk]; exact wf_two) (by
        rw [o.lk]
        intro a ha
        simp only [List.mem_cons, List.not_mem_nil, or_false] at ha
        rcases ha with rfl | rfl
        · exact ⟨oa.n, oa.q⟩
        · exact ⟨hobk.n, hobk.q⟩) (by have := o.tw.len; omega)).mono fun v H6 nx6 _ ⟨hv, ks6, y6, c6, hp6, hsd6, s6⟩ => ?_
      subst hv
      rw [o.lk] at hp6
      have hk6 := keys12 hp6 hsd6
      subst hk6
      have o6 := o.tick (3 + (k : Int)) oa' ob' htil
      generalize tickE (3 + (k : Int)) [1, 2] _ = e6 at s6 o6
      have hx6 := s6.le
      simp (disch := omega) only [go_sem, ↓reduceIte ]
      refine (eselect_c s6.a o6.pre).mono fun v H7 nx7 _ ⟨e7, L7, ks7, es17, es27, ts7, tb7, d7, l27, y7, c7, ow7, hse7, s7, hsl7, how7, hko7⟩ => ?_
      obtain ⟨o7, hr7⟩ := o6.sel hp.1 hp.2 (by omega) hse7
      have hn7 := hsl7.one
      have hx7 := s7.le
      have st7 := ((stx.trans s6).trans s7)
      simp (disch := omega) only [go_sem, ↓reduceIte , hn7, hcast]
      exact ⟨37 - (k + 1), by omega, k + 1, e7, y7, c7, ⟨rfl, by omega, rfl, st7, by rw [hB]; exact o7, fun h37 => by
        rw [hr7]
        refine OneL.gone rfl ?_ _ _
        have h36 : k = 36 := by omega
        subst h36
        have hlk := o6.lk
        unfold costN
        rw [hlk]
        exact lkA_end.1⟩⟩
    | true =>
      by_cases h3 : (3 + (k : Int)) % 3 = 0
      · have hB : lkB true (k + 1) = tickL (3 + (k : Int)) (lkS k (lkB true k)) := by
          show tickL _ (if _ then _ else _) = _
          rw [if_pos ⟨rfl, h3⟩]
        have ob' := hobk'
        rw [hB] at ob'
        have oS : OkL (lkS k (lkB true k)) := okL_iff (lkS_ok k hlt)
        simp (disch := omega) only [go_sem, ↓reduceIte ]
        refine (hello17_c 2 ((3 + (k : Int)) / 3 + 1) 96).mono fun v H4 nx4 _ ⟨sv, ow, hv, hs4, ho4, hx4, hk4⟩ => ?_
        subst hv
        have s4 := (EngS.refl stx.a).still hk4 hx4
        obtain ⟨va, vc, rfl⟩ := hs4.form
        simp (disch := omega) only [go_sem, ↓reduceIte ]
        refine (hearHello_c (fr := 2) s4.a hs4 (fun c hc => Classical.byContradiction fun hz => by have := stx.a.k.rng c hz; omega) (by omega) (by omega) (3 + (k : Int)) (by omega) (by rw [o.st]; omega) (o.hok oa hobk) (by omega)).mono fun v H5 nx5 _ ⟨hv, y5, c5, s5⟩ => ?_
        subst hv
        have o5 := o.hello ((3 + (k : Int)) / 3 + 1) 96 (3 + (k : Int)) oa oS
        have o5 : OneL [(1, lkA k), (2, lkS k (lkB true k))] (hearE noRq 2 0 (3 + (k : Int)) (helloPs ((3 + (k : Int)) / 3 + 1) 96) e) p (tOpt (tldOf 1 (updP p 5 x) 2)) none (k + 1) := o5
        generalize hearE noRq 2 0 (3 + (k : Int)) (helloPs ((3 + (k : Int)) / 3 + 1) 96) e = e5 at s5 o5
        have hx5 := s5.le
        have s5x := (stx.trans s4).trans s5
        simp (disch := omega) only [go_sem, ↓reduceIte ]
        refine (etick_c s5.a (3 + (k : Int)) (by omega) (by rw [o5.lk]; simp) (by rw [o5.lk]; exact wf_two) (by
          rw [o5.lk]
          intro a ha
          simp only [List.mem_cons, List.not_mem_nil, or_false] at ha
          rcases ha with rfl | rfl
          · exact ⟨oa.n, oa.q⟩
          · exact ⟨oS.n, oS.q⟩) (by have := o5.tw.len; omega)).mono fun v H6 nx6 _ ⟨hv, ks6, y6, c6, hp6, hsd6, s6⟩ => ?_
        subst hv
        rw [o5.lk] at hp6
        have hk6 := keys12 hp6 hsd6
        subst hk6
        have o6 := o5.tick (3 + (k : Int)) oa' ob' htil
        generalize tickE (3 + (k : Int)) [1, 2] _ = e6 at s6 o6
        have hx6 := s6.le
        simp (disch := omega) only [go_sem, ↓reduceIte ]
        refine (eselect_c s6.a o6.pre).mono fun v H7 nx7 _ ⟨e7, L7, ks7, es17, es27, ts7, tb7, d7, l27, y7, c7, ow7, hse7, s7, hsl7, how7, hko7⟩ => ?_
        obtain ⟨o7, hr7⟩ := o6.sel hp.1 hp.2 (by omega) hse7
        have hn7 := hsl7.one
        have hx7 := s7.le
        have st7 := ((s5x.trans s6).trans s7)
        simp (disch := omega) only [go_sem, ↓reduceIte , hn7, hcast]
        exact ⟨37 - (k + 1), by omega, k + 1, e7, y7, c7, ⟨rfl, by omega, rfl, st7, by rw [hB]; exact o7, fun h37 => by
          rw [hr7]
          refine OneL.gone rfl ?_ _ _
          have h36 : k = 36 := by omega
          subst h36
          have hlk := o6.lk
          unfold costN
          rw [hlk]
          exact lkA_end.1⟩⟩
      · have hB : lkB true (k + 1) = tickL (3 + (k : Int)) (lkB true k) := by
          show tickL _ (if _ then _ else _) = _
          rw [if_neg (fun h => h3 h.2)]
        have ob' := hobk'
        rw [hB] at ob'
        simp (disch := omega) only [go_sem, ↓reduceIte ]
        refine (etick_c stx.a (3 + (k : Int)) (by omega) (by rw [o.lk]; simp) (by rw [o.lk]; exact wf_two) (by
          rw [o.lk]
          intro a ha
          simp only [List.mem_cons, List.not_mem_nil, or_false] at ha
          rcases ha with rfl | rfl
          · exact ⟨oa.n, oa.q⟩
          · exact ⟨hobk.n, hobk.q⟩) (by have := o.tw.len; omega)).mono fun v H6 nx6 _ ⟨hv, ks6, y6, c6, hp6, hsd6, s6⟩ => ?_
        subst hv
        rw [o.lk] at hp6
        have hk6 := keys12 hp6 hsd6
        subst hk6
        have o6 := o.tick (3 + (k : Int)) oa' ob' htil
        generalize tickE (3 + (k : Int)) [1, 2] _ = e6 at s6 o6
        have hx6 := s6.le
        simp (disch := omega) only [go_sem, ↓reduceIte ]
        refine (eselect_c s6.a o6.pre).mono fun v H7 nx7 _ ⟨e7, L7, ks7, es17, es27, ts7, tb7, d7, l27, y7, c7, ow7, hse7, s7, hsl7, how7, hko7⟩ => ?_
        obtain ⟨o7, hr7⟩ := o6.sel hp.1 hp.2 (by omega) hse7
        have hn7 := hsl7.one
        have hx7 := s7.le
        have st7 := ((stx.trans s6).trans s7)
        simp (disch := omega) only [go_sem, ↓reduceIte , hn7, hcast]
        exact ⟨37 - (k + 1), by omega, k + 1, e7, y7, c7, ⟨rfl, by omega, rfl, st7, by rw [hB]; exact o7, fun h37 => by
          rw [hr7]
          refine OneL.gone rfl ?_ _ _
          have h36 : k = 36 := by omega
          subst h36
          have hlk := o6.lk
          unfold costN
          rw [hlk]
          exact lkA_end.1⟩⟩
  · have ei : k = 37 := by omega
    subst ei
    simp (disch := omega) only [go_sem, ↓reduceIte ]
    exact hK _ _ _ _ _ stx o (hr rfl)
end Go.Proofs.YtngnbafididkcaaGreat
