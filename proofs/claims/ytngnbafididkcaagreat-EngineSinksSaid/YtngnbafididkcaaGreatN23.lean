/- Engine's laws: own, hello, update: in our own logic. Engine's laws: met: in our own logic. -/
import Derived.Test.YtngnbafididkcaaGreatN9
import Derived.Test.YtngnbafididkcaaGreatR3
section
namespace Go.Proofs.YtngnbafididkcaaGreat
open Go.RowKit
set_option linter.unusedSimpArgs false

set_option maxRecDepth 20000 in
theorem own17_c {lo : Nat} {H : AH} {nx : Nat} : ACalls Tryz.prog lo 21 #[] H nx (fun v H' nx' => ∃ b, nx ≤ b ∧ v = .slice (some ⟨b, 0, none⟩) 1 1 ∧ nx' = b + 1 ∧ Kp (fun _ => False) nx H H' ∧ SlA (b + 1) H' 2 v 1 (pxC [(201326592, 24)]) (b + 1)) := by
  refine ACalls.withLo fun hlo => ?_
  refine acalls_of_awp L21 Tryz.func21 rfl (by kernel_rfl) ?_
  simp (disch := omega) only [go_sem, ↓reduceIte ]
  refine buildSQ_all (n := 1) [.agg #[.int .u32 201326592, .int .u8 24]] sl46 zero30 (by omega) (by omega) rfl (by simp [cells_agg]) fun f hf => ?_
  have hlit := px_lit H f 30 201326592 24
  simp (disch := omega) only [go_sem, ↓reduceIte ]
  exact ⟨f, hf, rfl, rfl, (by repeat first | exact Kp.refl _ _ _ | refine Kp.dropT ?_ (.inl (by omega)) | refine Kp.put ?_ (.inl (by omega)) | refine Kp.new ?_ (by omega) | refine Kp.put ?_ (.inr (by omega)) | refine Kp.newO ?_ (by omega) | refine Kp.setO ?_ (.inl (by omega)) | refine Kp.setO ?_ (.inr (by omega)) | refine Kp.trans0 ?_ (by assumption) (by omega) | refine Kp.transS ?_ (by assumption) (by omega) (fun b hb hT => by first | omega | (dsimp only at hT ⊢; omega) | (simp only at hT ⊢; omega))) , hlit⟩
def helloPs (n cost : Int) : List Prt := [⟨1, n, 0, 0, 0, 0, 0⟩, ⟨2, 0, 0, 0, 0, 0, cost⟩]
set_option maxRecDepth 20000 in
theorem hello17_c {lo : Nat} {H : AH} {nx : Nat} (fr n cost : Int) : ACalls Tryz.prog lo 30 #[.int .i64 fr, .int .u64 n, .int .u16 cost, .slice none 0 0] H nx (fun v H' nx' => ∃ sv own, v = .agg #[.int .i64 fr, sv] ∧ SlA nx' H' 7 sv 2 (ptCells (helloPs n cost)) own ∧ (own = 0 ∨ nx < own) ∧ nx ≤ nx' ∧ Kp (fun _ => False) nx H H') := by
  refine ACalls.withLo fun hlo => ?_
  refine acalls_of_awp L30 Tryz.func30 rfl (by kernel_rfl) ?_
  simp (disch := omega) only [go_sem, ↓reduceIte ]
  intro d hd
  simp (disch := omega) only [go_sem, ↓reduceIte ]
  refine buildSQ_all (n := 2) [.agg #[.int .u8 1, .int .u64 n, .int .i64 0, .int .u32 0, .int .u8 0, .int .u16 0, .int .u16 0], .agg #[.int .u8 2, .int .u64 0, .int .i64 0, .int .u32 0, .int .u8 0, .int .u16 0, .int .u16 cost]] sl34 zero32 (by omega) (by omega) rfl (by simp [cells_agg]) fun f hf => ?_
  have hlit : SlA (f + 1) _ 7 (.slice (some ⟨f, 0, none⟩) 2 2) 2 (ptCells (helloPs n cost)) (f + 1) := SlA.ofNew (H := (H.new d #[.int .i64 0, .slice none 0 0] 36)) (e := 32) (cs := ([Value.agg #[.int .u8 1, .int .u64 n, .int .i64 0, .int .u32 0, .int .u8 0, .int .u16 0, .int .u16 0], .agg #[.int .u8 2, .int .u64 0, .int .i64 0, .int .u32 0, .int .u8 0, .int .u16 0, .int .u16 cost]].flatMap fun v => v.cells.toList).toArray) rfl (by omega) (by simp [maxLen]) (by simp [cells_agg]) (fun j _ => by simp [cells_agg, ptCells, helloPs, Prt.cells])
  simp (disch := omega) only [go_sem, ↓reduceIte ]
  refine appendQ_two (aw_append sl34 zero32 rfl by32 hlit ((SlA.nil (nx := f + 1) (H := (H.new d #[.int .i64 0, .slice none 0 0] 36).new f ([Value.agg #[.int .u8 1, .int .u64 n, .int .i64 0, .int .u32 0, .int .u8 0, .int .u16 0, .int .u16 0], .agg #[.int .u8 2, .int .u64 0, .int .i64 0, .int .u32 0, .int .u8 0, .int .u16 0, .int .u16 cost]].flatMap fun v => v.cells.toList).toArray 32) (size := 7)).src sl34 (by simp)) (by simp only [maxLen]; omega) (by omega) (by omega) fun v7 H7 nx7 own7 hn7 hs7 ho7 hk7 _ => ?_)
  have hone7 := hs7.one
  rw [List.append_nil] at hs7
  have kk : Kp (fun _ => False) nx H H7 := (by repeat first | exact Kp.refl _ _ _ | refine Kp.dropT ?_ (.inl (by omega)) | refine Kp.put ?_ (.inl (by omega)) | refine Kp.new ?_ (by omega) | refine Kp.put ?_ (.inr (by omega)) | refine Kp.newO ?_ (by omega) | refine Kp.setO ?_ (.inl (by omega)) | refine Kp.setO ?_ (.inr (by omega)) | refine Kp.trans0 ?_ (by assumption) (by omega) | refine Kp.transS ?_ (by assumption) (by omega) (fun b hb hT => by first | omega | (dsimp only at hT ⊢; omega) | (simp only at hT ⊢; omega))) 
  obtain ⟨va, vc, rfl⟩ := hs7.form
  have cd0 : H7.c d 0 = some (.int .i64 0) := by rw [hk7.cell d _ (by omega) (by omega)]; simp (disch := omega) only [go_sem, ↓reduceIte ]
  have cd1 : H7.c d 1 = some (.slice none 0 0) := by rw [hk7.cell d _ (by omega) (by omega)]; simp (disch := omega) only [go_sem, ↓reduceIte ]
  simp (disch := omega) only [go_sem, ↓reduceIte , cd0, cd1]
  have hfin : SlA nx7 (H7.put d 0 (.int .i64 fr) |>.put d 1 (.slice va (2 + 0) vc)) 7 (.slice va (2 + 0) vc) 2 (ptCells (helloPs n cost)) own7 := (hs7.put (by omega)).put (by omega)
  exact ⟨_, own7, rfl, hfin, by omega, by omega, (by repeat first | exact Kp.refl _ _ _ | refine Kp.dropT ?_ (.inl (by omega)) | refine Kp.put ?_ (.inl (by omega)) | refine Kp.new ?_ (by omega) | refine Kp.put ?_ (.inr (by omega)) | refine Kp.newO ?_ (by omega) | refine Kp.setO ?_ (.inl (by omega)) | refine Kp.setO ?_ (.inr (by omega)) | refine Kp.trans0 ?_ (by assumption) (by omega) | refine Kp.transS ?_ (by assumption) (by omega) (fun b hb hT => by first | omega | (dsimp only at hT ⊢; omega) | (simp only at hT ⊢; omega))) ⟩
set_option maxRecDepth 20000 in
theorem update17_c {lo : Nat} {H : AH} {nx : Nat} (a s m : Int) (h0 : 0 ≤ a) (h1 : a ≤ 255) : ACalls Tryz.prog lo 16 #[.int .u8 a, .int .u16 s, .int .u16 m] H nx (fun v H' nx' => v = .agg (Prt.mk 3 0 3 (pfxA a) (pfxN a) s m).cells.toArray ∧ nx ≤ nx' ∧ Kp (fun _ => False) nx H H') := by
  refine ACalls.withLo fun hlo => ?_
  refine acalls_of_awp L16 Tryz.func16 rfl (by kernel_rfl) ?_
  simp (disch := omega) only [go_sem, ↓reduceIte ]
  intro d hd
  simp (disch := omega) only [go_sem, ↓reduceIte ]
  refine (pfx_c a h0 h1 _ _).mono fun v H1 nx1 _ ⟨hv, hx1, hk1⟩ => ?_
  subst hv
  have hc := hk1.cell0
  have cd0 : H1.c d 0 = some (.int .u8 0) := by rw [hk1.cell0 d _ (by omega)]; simp (disch := omega) only [go_sem, ↓reduceIte ]
  have cd1 : H1.c d 1 = some (.int .u64 0) := by rw [hk1.cell0 d _ (by omega)]; simp (disch := omega) only [go_sem, ↓reduceIte ]
  have cd2 : H1.c d (1 + 1) = some (.int .i64 0) := by rw [hk1.cell0 d _ (by omega)]; simp (disch := omega) only [go_sem, ↓reduceIte ]
  have cd3 : H1.c d (1 + 1 + 1) = some (.int .u32 0) := by rw [hk1.cell0 d _ (by omega)]; simp (disch := omega) only [go_sem, ↓reduceIte ]
  have cd4 : H1.c d (1 + 1 + 1 + 1) = some (.int .u8 0) := by rw [hk1.cell0 d _ (by omega)]; simp (disch := omega) only [go_sem, ↓reduceIte ]
  have cd5 : H1.c d (1 + 1 + 1 + 1 + 1) = some (.int .u16 0) := by rw [hk1.cell0 d _ (by omega)]; simp (disch := omega) only [go_sem, ↓reduceIte ]
  have cd6 : H1.c d (1 + 1 + 1 + 1 + 1 + 1) = some (.int .u16 0) := by rw [hk1.cell0 d _ (by omega)]; simp (disch := omega) only [go_sem, ↓reduceIte ]
  simp (disch := omega) only [go_sem, ↓reduceIte , cd0, cd1, cd2, cd3, cd4, cd5, cd6]
  exact ⟨rfl, by omega, (by repeat first | exact Kp.refl _ _ _ | refine Kp.dropT ?_ (.inl (by omega)) | refine Kp.put ?_ (.inl (by omega)) | refine Kp.new ?_ (by omega) | refine Kp.put ?_ (.inr (by omega)) | refine Kp.newO ?_ (by omega) | refine Kp.setO ?_ (.inl (by omega)) | refine Kp.setO ?_ (.inr (by omega)) | refine Kp.trans0 ?_ (by assumption) (by omega) | refine Kp.transS ?_ (by assumption) (by omega) (fun b hb hT => by first | omega | (dsimp only at hT ⊢; omega) | (simp only at hT ⊢; omega))) ⟩
end Go.Proofs.YtngnbafididkcaaGreat
end
section
namespace Go.Proofs.YtngnbafididkcaaGreat
open Go.RowKit
set_option linter.unusedSimpArgs false

def noRq (e : Eng) (_ : Prt) : Eng := e
def ownPx : Int × Int := (201326592, 24)
def lkM (c : Int) (n : Int) : Lnk := ⟨if n = 0 then 0 else if n = 1 then 1 else 3, n, if n = 0 then 65535 else max c 1, if n = 0 then 0 else 21, 7⟩
/-- Behind n hellos of each. -/
def metE (a b : Int) (n : Int) : Eng := ⟨0, if n = 0 then [] else [(1, lkM a n), (2, lkM b n)], [], [], [(ownPx, 1)], [], 0, [], [], true, 0, 0, 0, 0⟩
def metH (a b : Int) (n : Int) : Eng := hearE noRq 1 0 1 (helloPs n a) (metE a b n)
theorem metE_step0 (a b : Int) : hearE noRq 2 0 1 (helloPs 0 b) (metH a b 0) = metE a b 1 := by
  simp [metH, hearE, metE, helloPs, partE, getA, setA, lkM, lnNew, helloL]
theorem metE_step1 (a b : Int) : hearE noRq 2 0 1 (helloPs 1 b) (metH a b 1) = metE a b 2 := by
  simp [metH, hearE, metE, helloPs, partE, getA, setA, lkM, lnNew, helloL]
  decide
theorem metE_ok (a b n : Int) (h0 : 0 ≤ n) (h1 : n ≤ 2) : HOk (metE a b n) 0 := by
  refine ⟨by simp [metE, UqT], by simp [metE], fun l hl => ?_⟩
  unfold metE at hl
  simp only at hl
  split at hl
  · cases hl
  · simp only [List.mem_cons, List.not_mem_nil, or_false] at hl
    rcases hl with rfl | rfl
    · exact ⟨h0, by show n ≤ 1000001; omega⟩
    · exact ⟨h0, by show n ≤ 1000001; omega⟩
theorem hello_ok {n c : Int} (h0 : 0 ≤ n) (h1 : n ≤ 1000) : ∀ x ∈ helloPs n c, PtOk x := by
  intro x hx
  simp only [helloPs, List.mem_cons, List.not_mem_nil, or_false] at hx
  rcases hx with rfl | rfl
  · exact ⟨by show (0 : Int) ≤ 1; omega, by show (1 : Int) ≤ 4; omega, h0, by show n ≤ 1000000; omega, fun h => by cases h⟩
  · exact ⟨by show (0 : Int) ≤ 2; omega, by show (2 : Int) ≤ 4; omega, by show (0 : Int) ≤ 0; omega, by show (0 : Int) ≤ 1000000; omega, fun h => by cases h⟩
theorem HOk.more {e : Eng} {k k' : Nat} (h : HOk e k) (hk : k ≤ k') : HOk e k' := ⟨h.uq, by have := h.le; omega, h.ln⟩
theorem hear_ok {e : Eng} {fr strange now : Int} {ps : List Prt} {k : Nat} (hok : HOk e k) (hps : ∀ x ∈ ps, PtOk x) : HOk (hearE noRq fr strange now ps e) (k + ps.length) := by
  unfold hearE
  split
  · exact hok.more (by omega)
  · have := hok_fold (rq := noRq) (fr := fr) (now := now) (k := k) (e1 := { e with strange := e.strange + strange, lk := match getA fr e.lk with | some _ => e.lk | none => setA fr (lnNew now) e.lk }) (ps := ps) ⟨hok.uq, hok.le, fun a ha => by
      cases hg : getA fr e.lk with
      | some l => rw [hg] at ha; exact hok.ln a ha
      | none =>
        rw [hg] at ha
        rcases mem_setA (show a ∈ setA fr (lnNew now) e.lk from ha) with rfl | ha
        · exact ⟨by show (0 : Int) ≤ 0; omega, by show (0 : Int) ≤ 1000001; omega⟩
        · exact hok.ln a ha⟩ hps (fun _ _ => ⟨rfl, rfl, rfl⟩) ps.length
    rw [List.take_length] at this
    exact this
/-- A hello is heard. -/
theorem hearHello_c {lo nx : Nat} {H : AH} {p : Nat} {col : Nat → Nat} {y : ELay} {e : Eng} {fr n c : Int} {sv : Value} {own : Nat} {k : Nat} (hA : EngA lo nx H p e y col) (hs : SlA nx H 7 sv 2 (ptCells (helloPs n c)) own) (hso : ∀ b, b + 1 = own → col b = 0) (hfr : 0 ≤ fr ∧ fr < 16) (hn : 0 ≤ n ∧ n ≤ 1000) (now : Int) (hnow : 0 ≤ now ∧ now ≤ 1000000) (hst : -1000000 ≤ e.strange ∧ e.strange ≤ 1000000) (hok : HOk e k) (hk : k + 2 < 256) :
    ACalls Tryz.prog lo 15 #[.pointer (some ⟨p, 0, none⟩), .agg #[.int .i64 fr, sv], .int .i64 0, .int .u64 now] H nx (fun v H' nx' => v = .tuple #[] ∧ ∃ y' col', EngS lo nx H p col (hearE noRq fr 0 now (helloPs n c) e) H' nx' y' col') :=
  ehear_c (ps := helloPs n c) (rq := noRq) hA hs hso (hello_ok hn.1 hn.2) hfr hnow (by omega) hok hk (by simp [helloPs]) (fun _ _ => ⟨rfl, rfl, rfl⟩) (fun e x H nx y col hx h4 _ => by
    simp only [helloPs, List.mem_cons, List.not_mem_nil, or_false] at hx
    rcases hx with rfl | rfl <;> cases h4)
structure MeI (lo nx0 : Nat) (H0 : AH) (p : Nat) (a b : Int) (m : Nat) (env : Env) (H : AH) (nx i : Nat) (y : ELay) (col : Nat → Nat) : Prop where
  hm : m = 2 - i
  hi : i ≤ 2
  henv : env = [(0, .int .u16 a), (1, .int .u16 b), (5, .pointer (some ⟨p, 0, none⟩)), (6, .int .u64 i)]
  st : EngS lo nx0 H0 p (fun _ => 0) (metE a b i) H nx y col
set_option maxRecDepth 20000 in
theorem met17_c {lo nx : Nat} {H : AH} (a b : Int) : ACalls Tryz.prog lo 14 #[.int .u16 a, .int .u16 b] H nx (fun v H' nx' => ∃ p y col, v = .pointer (some ⟨p, 0, none⟩) ∧ EngS lo nx H p (fun _ => 0) (metE a b 2) H' nx' y col) := by
  refine ACalls.withLo fun hlo => ?_
  refine acalls_of_awp L14 Tryz.func14 rfl (by kernel_rfl) ?_
  simp (disch := omega) only [go_sem, ↓reduceIte ]
  refine own17_c.mono fun v H1 nx1 _ ⟨b1, hb1, hv, hn1, hk1, hs1⟩ => ?_
  subst hv; subst hn1
  simp (disch := omega) only [go_sem, ↓reduceIte ]
  refine (enew_c 0 hs1 (by decide) (by omega)).mono fun v H2 nx2 _ ⟨p, y, col, hv, st⟩ => ?_
  subst hv
  have st0 : EngS lo nx H p (fun _ => 0) (metE a b 0) H2 nx2 y col := ⟨by have := st.le; omega, hk1.trans (U := fun _ => (0 : Nat) ≠ 0) st.kp (by omega) (fun _ _ h => h.elim) (fun _ _ h => h), st.a, fun b hb => by
    rcases st.fp b hb with h | h
    · exact .inl h
    · exact .inr (by omega)⟩
  simp (disch := omega) only [go_sem, ↓reduceIte ]
  refine awp_loop (fun m env H' nx' => ∃ i y col, MeI lo nx H p a b m env H' nx' i y col) 2 ⟨0, y, col, ⟨rfl, by omega, rfl, st0⟩⟩ (fun m env H3 nx3 ⟨i, y, col, hI⟩ hn => ?_)
  obtain ⟨hm, hi, henv, st⟩ := hI
  subst henv
  by_cases h2 : i < 2
  · have hstep : hearE noRq 2 0 1 (helloPs i b) (hearE noRq 1 0 1 (helloPs i a) (metE a b i)) = metE a b (i + 1 : Nat) := by
      by_cases h0 : i = 0
      · subst h0; exact metE_step0 a b
      · have h1 : i = 1 := by omega
        subst h1; exact metE_step1 a b
    have hok1 := metE_ok a b i (by omega) (by omega)
    have hok2 := hear_ok (fr := 1) (strange := 0) (now := 1) hok1 (hello_ok (n := i) (c := a) (by omega) (by omega))
    have hst1 : (metE a b i).strange = 0 := rfl
    have hst2 : (hearE noRq 1 0 1 (helloPs i a) (metE a b i)).strange = 0 := by
      by_cases h0 : i = 0
      · subst h0; simp [hearE, metE, helloPs, partE, getA, setA]
      · have h1 : i = 1 := by omega
        subst h1; simp [hearE, metE, helloPs, partE, getA, setA]
    simp (disch := omega) only [go_sem, ↓reduceIte ]
    refine (hello17_c 1 i a).mono fun v H4 nx4 _ ⟨sv, ow, hv, hs4, ho4, hx4, hk4⟩ => ?_
    subst hv
    have s4 := (EngS.refl st.a).still hk4 hx4
    obtain ⟨va, vc, rfl⟩ := hs4.form
    simp (disch := omega) only [go_sem, ↓reduceIte ]
    refine (hearHello_c (fr := 1) s4.a hs4 (fun c hc => Classical.byContradiction fun hz => by have := st.a.k.rng c hz; omega) (by omega) (by omega) 1 (by omega) (by rw [hst1]; omega) hok1 (by omega)).mono fun v H5 nx5 _ ⟨hv, y5, col5, s5⟩ => ?_
    subst hv
    simp (disch := omega) only [go_sem, ↓reduceIte ]
    refine (hello17_c 2 i b).mono fun v H6 nx6 _ ⟨sv, ow6, hv, hs6, ho6, hx6, hk6⟩ => ?_
    subst hv
    have s6 := (EngS.refl s5.a).still hk6 hx6
    obtain ⟨vb, vd, rfl⟩ := hs6.form
    simp (disch := omega) only [go_sem, ↓reduceIte ]
    refine (hearHello_c (fr := 2) s6.a hs6 (fun c hc => Classical.byContradiction fun hz => by have := s5.a.k.rng c hz; omega) (by omega) (by omega) 1 (by omega) (by rw [hst2]; omega) hok2 (by simp [helloPs])).mono fun v H7 nx7 _ ⟨hv, y7, col7, s7⟩ => ?_
    subst hv
    have hcast : ((i : Int) + 1) = ((i + 1 : Nat) : Int) := by omega
    rw [hstep] at s7
    simp (disch := omega) only [go_sem, ↓reduceIte , hcast]
    exact ⟨2 - (i + 1), by omega, i + 1, y7, col7, ⟨rfl, by omega, rfl, (((st.trans s4).trans s5).trans s6).trans s7⟩⟩
  · have ei : i = 2 := by omega
    subst ei
    simp (disch := omega) only [go_sem, ↓reduceIte ]
    exact ⟨p, y, col, rfl, st⟩
end Go.Proofs.YtngnbafididkcaaGreat
end
