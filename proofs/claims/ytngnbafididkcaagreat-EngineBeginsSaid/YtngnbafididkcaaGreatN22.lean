/- Engine: ask: in our own logic. Engine: Select: what is lost: in our own logic. Engine: Select: what is asked for; its end: in our own logic. Engine: Select: from the sort on: in our own logic. Engine: Select, whole: in our own logic. Engine: Select, its contract: in our own logic. -/
import Derived.Test.YtngnbafididkcaaGreatN9
import Derived.Test.YtngnbafididkcaaGreatN14
section
namespace Go.Proofs.YtngnbafididkcaaGreat
open Go.RowKit
set_option linter.unusedSimpArgs false

set_option maxRecDepth 20000 in
theorem idxPt_c {lo : Nat} {H : AH} {nx : Nat} {v : Value} {l : List Prt} {own : Nat} (hs : SlA nx H 7 v l.length (ptCells l) own) (hl : l.length ≤ 1000000) {g : Nat} {cap : List Value} (hfn : fnOk Tryz.prog g = true) {q : Prt → Bool}
    (hf : ∀ x ∈ l, ∀ (H1 : AH) (nx1 : Nat), nx ≤ nx1 → Kp (fun _ => False) nx H H1 → ACalls Tryz.prog lo g (.agg x.cells.toArray :: cap).toArray H1 nx1 (fun v H' nx' => v = .bool (q x) ∧ nx1 ≤ nx' ∧ Kp (fun _ => False) nx1 H1 H')) :
    ACalls Tryz.prog lo 134 #[v, .func (.func g) #[] cap.toArray] H nx (fun v H' nx' => nx ≤ nx' ∧ Kp (fun _ => False) nx H H' ∧ ∃ r, v = .int .i64 r ∧ (0 ≤ r ↔ l.any q = true)) := by
  refine ACalls.withLo fun hlo => ?_
  refine acalls_of_awp L134 Tryz.func134 rfl (by kernel_rfl) ?_
  obtain ⟨aa, ac, rfl⟩ := hs.form
  simp (disch := omega) only [go_sem, ↓reduceIte ]
  refine awp_loop (fun m env H1 nx1 => ∃ i, IxI nx H (.slice aa l.length ac) (.func (.func g) #[] cap.toArray) q l m env H1 nx1 i) l.length ⟨0, ⟨rfl, by omega, rfl, Nat.le_refl _, Kp.refl _ _ _, by simp⟩⟩ (fun m env H1 nx1 ⟨i, hI⟩ hn => ?_)
  obtain ⟨hm, hi, henv, hx, hk, hno⟩ := hI
  subst henv
  by_cases hlt : i < l.length
  · obtain ⟨gb, off, cp, hv, hgo⟩ := hs.open (by omega)
    simp only [Value.slice.injEq, true_and] at hv
    obtain ⟨rfl, rfl⟩ := hv
    have hs1 := hs.kp hk hx (by simp)
    have hx0 : l[i]? = some l[i] := List.getElem?_eq_getElem hlt
    have hld := pt_load hs1 hx0
    have hq := hf l[i] (List.getElem_mem hlt) H1 nx1 hx hk
    have htn := take_next hlt hno
    generalize hx1 : l[i] = x at hx0 hld hq htn
    have hxm : x ∈ l := by rw [← hx1]; exact List.getElem_mem hlt
    unfold Prt.cells at hld hq
    simp (disch := omega) only [go_sem, ↓reduceIte , hld]
    refine hq.mono fun v H2 nx2 _ ⟨hv, hx2, hk2⟩ => ?_
    subst hv
    have k2 : Kp (fun _ => False) nx H H2 := hk.trans0 hk2 hx
    cases hqx : q x with
    | true =>
      simp (disch := omega) only [go_sem, ↓reduceIte ]
      exact ⟨by omega, k2, i, rfl, iff_of_true (by omega) (List.any_eq_true.2 ⟨x, hxm, hqx⟩)⟩
    | false =>
      simp (disch := omega) only [go_sem, ↓reduceIte ]
      exact ⟨l.length - (i + 1), by omega, i + 1, ⟨rfl, by omega, rfl, by omega, k2, htn hqx⟩⟩
  · have ei : i = l.length := by omega
    subst ei
    simp (disch := omega) only [go_sem, ↓reduceIte ]
    refine ⟨by omega, hk, -1, rfl, iff_of_false (by omega) fun h => ?_⟩
    obtain ⟨x, hx, h2⟩ := List.any_eq_true.1 h
    rw [hno x (by rw [List.take_length]; exact hx)] at h2
    cases h2
set_option maxRecDepth 20000 in
theorem contPt_c {lo : Nat} {H : AH} {nx : Nat} {v : Value} {l : List Prt} {own : Nat} (hs : SlA nx H 7 v l.length (ptCells l) own) (hl : l.length ≤ 1000000) {g : Nat} {cap : List Value} (hfn : fnOk Tryz.prog g = true) {q : Prt → Bool}
    (hf : ∀ x ∈ l, ∀ (H1 : AH) (nx1 : Nat), nx ≤ nx1 → Kp (fun _ => False) nx H H1 → ACalls Tryz.prog lo g (.agg x.cells.toArray :: cap).toArray H1 nx1 (fun v H' nx' => v = .bool (q x) ∧ nx1 ≤ nx' ∧ Kp (fun _ => False) nx1 H1 H')) :
    ACalls Tryz.prog lo 96 #[v, .func (.func g) #[] cap.toArray] H nx (fun v H' nx' => v = .bool (l.any q) ∧ nx ≤ nx' ∧ Kp (fun _ => False) nx H H') := by
  refine acalls_of_awp L96 Tryz.func96 rfl (by kernel_rfl) ?_
  simp (disch := omega) only [go_sem, ↓reduceIte ]
  refine (idxPt_c hs hl hfn hf).mono fun v H1 nx1 _ ⟨hx, hk, r, hv, hr⟩ => ?_
  subst hv
  simp (disch := omega) only [go_sem, ↓reduceIte ]
  refine ⟨?_, hx, hk⟩
  congr 1
  rw [Bool.eq_iff_iff, ← hr, decide_eq_true_iff]
def samePt (a n : Int) (q : Prt) : Bool := decide (q.addr = a) && decide (q.len = n)
set_option maxRecDepth 20000 in
theorem easkC_c {lo : Nat} {H : AH} {nx b : Nat} {a n : Int} (h0 : H.c b 3 = some (.int .u32 a)) (h1 : H.c b 4 = some (.int .u8 n)) (hb : b < nx) (x : Prt) : ACalls Tryz.prog lo 95 #[.agg x.cells.toArray, .pointer (some ⟨b, 0, none⟩)] H nx (fun v H' nx' => v = .bool (samePt a n x) ∧ nx ≤ nx' ∧ Kp (fun _ => False) nx H H') := by
  refine ACalls.withLo fun hlo => ?_
  refine acalls_of_awp L95 Tryz.func95 rfl (by kernel_rfl) ?_
  unfold Prt.cells
  simp (disch := omega) only [go_sem, ↓reduceIte ]
  intro d hd
  simp (disch := omega) only [go_sem, ↓reduceIte , h0, h1]
  refine ⟨?_, by omega, (by repeat first | exact Kp.refl _ _ _ | refine Kp.dropT ?_ (.inl (by omega)) | refine Kp.put ?_ (.inl (by omega)) | refine Kp.new ?_ (by omega) | refine Kp.put ?_ (.inr (by omega)) | refine Kp.newO ?_ (by omega) | refine Kp.setO ?_ (.inl (by omega)) | refine Kp.setO ?_ (.inr (by omega)) | refine Kp.trans0 ?_ (by assumption) (by omega) | refine Kp.transS ?_ (by assumption) (by omega) (fun b hb hT => by first | omega | (dsimp only at hT ⊢; omega) | (simp only at hT ⊢; omega))) ⟩
  simp [samePt, eqLs, eqLeaf]
set_option maxHeartbeats 1000000 in
set_option maxRecDepth 20000 in
theorem eask_c {lo nx : Nat} {H : AH} {p : Nat} {e : Eng} {y : ELay} {col : Nat → Nat} (hA : EngA lo nx H p e y col) (x : Prt) (hal : e.asks.length ≤ 16) :
    ACalls Tryz.prog lo 57 #[.pointer (some ⟨p, 0, none⟩), .agg x.cells.toArray] H nx (fun v H' nx' => v = .tuple #[] ∧ ∃ y' col', y'.bl = y.bl ∧ y'.v5 = y.v5 ∧ y'.o5 = y.o5 ∧ EngS lo nx H p col { e with asks := askE e.asks x } H' nx' y' col') := by
  refine ACalls.withLo fun hlo => ?_
  refine acalls_of_awp L57 Tryz.func57 rfl (by kernel_rfl) ?_
  unfold Prt.cells
  simp (disch := omega) only [go_sem, ↓reduceIte ]
  intro d hd
  have kd : Kp (fun _ => False) nx H (H.new d #[.int .u8 x.kind, .int .u64 x.n, .int .i64 x.node, .int .u32 x.addr, .int .u8 x.len, .int .u16 x.seq, .int .u16 x.metric] 32) := (by repeat first | exact Kp.refl _ _ _ | refine Kp.dropT ?_ (.inl (by omega)) | refine Kp.put ?_ (.inl (by omega)) | refine Kp.new ?_ (by omega) | refine Kp.put ?_ (.inr (by omega)) | refine Kp.newO ?_ (by omega) | refine Kp.setO ?_ (.inl (by omega)) | refine Kp.setO ?_ (.inr (by omega)) | refine Kp.trans0 ?_ (by assumption) (by omega) | refine Kp.transS ?_ (by assumption) (by omega) (fun b hb hT => by first | omega | (dsimp only at hT ⊢; omega) | (simp only at hT ⊢; omega))) 
  have hA1 := hA.kp' (nx' := d + 1) kd (by omega) (by simp)
  have c8 : H.c p (7 + 1) = some y.v8 := hA.c.c8
  have hpn := (hA.k.lt hA.k.kp (by omega)).2
  have ho8 := hA.s8.one
  have hc8 : ∀ r, Kp (fun _ => False) nx H r → r.c p (7 + 1) = some y.v8 := fun r hr => by rw [hr.cell0 p _ hpn]; exact c8
  simp (disch := omega) only [go_sem, ↓reduceIte , c8]
  refine (contPt_c (q := samePt x.addr x.len) (g := 95) (cap := [.pointer (some ⟨d, 0, none⟩)]) hA1.s8 (by omega) (by kernel_rfl) (fun z _ H1 nx1 hx1 hk1 => easkC_c (by rw [hk1.cell0 d 3 (by omega), new_same]; rfl) (by rw [hk1.cell0 d 4 (by omega), new_same]; rfl) (by omega) z)).mono fun v H1 nx1 _ ⟨hv, hx1, hk1⟩ => ?_
  subst hv
  have hA2 := hA1.kp' (nx' := nx1) hk1 (by omega) (by simp)
  have c82 : H1.c p (7 + 1) = some y.v8 := hA2.c.c8
  have k2 : Kp (fun _ => False) nx H H1 := kd.trans (U := fun _ => False) hk1 (by omega) (fun _ _ h => h) (fun _ _ h => h)
  have hany : e.asks.any (samePt x.addr x.len) = e.asks.any (fun q => decide (q.addr = x.addr) && decide (q.len = x.len)) := rfl
  cases hq : e.asks.any (samePt x.addr x.len) with
  | true =>
    have he : askE e.asks x = e.asks := by unfold askE; rw [if_pos (.inl (by rw [← hany]; exact hq))]
    simp (disch := omega) only [go_sem, ↓reduceIte ]
    exact ⟨y, col, rfl, rfl, rfl, by rw [he]; exact (EngS.refl hA).still k2 (by omega)⟩
  | false =>
    obtain ⟨va, vc, hform⟩ := hA.s8.form
    rw [hform] at c82 ho8
    simp (disch := omega) only [go_sem, ↓reduceIte , c82]
    by_cases h16 : e.asks.length < 16
    · have he : askE e.asks x = e.asks ++ [x] := by unfold askE; rw [if_neg (by rw [← hany, hq]; simp; omega)]
      simp (disch := omega) only [go_sem, ↓reduceIte ]
      refine awp_draw ord57x3 (by kernel_rfl) ?_
      have cd : ∀ o, H1.c d o = (#[.int .u8 x.kind, .int .u64 x.n, .int .i64 x.node, .int .u32 x.addr, .int .u8 x.len, .int .u16 x.seq, .int .u16 x.metric] : Array Value)[o]? := fun o => by
        rw [hk1.cell0 d o (by omega), new_same]
      simp (disch := omega) only [go_sem, ↓reduceIte , ord57x3, c82, cd]
      refine buildSQ_all (n := 1) [.agg #[.int .u8 x.kind, .int .u64 x.n, .int .i64 x.node, .int .u32 x.addr, .int .u8 x.len, .int .u16 x.seq, .int .u16 x.metric]] sl34 zero32 (by omega) (by omega) rfl (by simp [cells_agg]) fun f hf => ?_
      have hlit := pt_lit H1 f 32 x
      have how := hA.k.w8
      have hs5 := hA2.s8
      rw [hform] at hs5
      have hs6 := hs5.new (vs := ([Value.agg #[.int .u8 x.kind, .int .u64 x.n, .int .i64 x.node, .int .u32 x.addr, .int .u8 x.len, .int .u16 x.seq, .int .u16 x.metric]].flatMap fun v => v.cells.toList).toArray) (e := 32) hf
      simp (disch := omega) only [go_sem, ↓reduceIte ]
      refine ⟨dkeep_kp (by repeat first | exact Kp.refl _ _ _ | refine Kp.dropT ?_ (.inl (by omega)) | refine Kp.put ?_ (.inl (by omega)) | refine Kp.new ?_ (by omega) | refine Kp.put ?_ (.inr (by omega)) | refine Kp.newO ?_ (by omega) | refine Kp.setO ?_ (.inl (by omega)) | refine Kp.setO ?_ (.inr (by omega)) | refine Kp.trans0 ?_ (by assumption) (by omega) | refine Kp.transS ?_ (by assumption) (by omega) (fun b hb hT => by first | omega | (dsimp only at hT ⊢; omega) | (simp only at hT ⊢; omega))) , ?_⟩
      refine appendQ_two (aw_append sl34 zero32 rfl by32 hs6 (hlit.src sl34 ptCells_one) (by simp only [maxLen]; omega) (by omega) (by omega) fun v7 H7 nx7 own7 hn7 hs7 ho7 hk7 _ => ?_)
      have hone7 := hs7.one
      have hp8 : p + 1 ≠ y.o8 := fun hc => by
        have := hA.k.k8 p hc
        have := hA.k.kp
        omega
      have k17 : Kp (fun b => b + 1 = y.o8) nx1 H1 H7 := (by repeat first | exact Kp.refl _ _ _ | refine Kp.dropT ?_ (.inl (by omega)) | refine Kp.put ?_ (.inl (by omega)) | refine Kp.new ?_ (by omega) | refine Kp.put ?_ (.inr (by omega)) | refine Kp.newO ?_ (by omega) | refine Kp.setO ?_ (.inl (by omega)) | refine Kp.setO ?_ (.inr (by omega)) | refine Kp.trans0 ?_ (by assumption) (by omega) | refine Kp.transS ?_ (by assumption) (by omega) (fun b hb hT => by first | omega | (dsimp only at hT ⊢; omega) | (simp only at hT ⊢; omega))) 
      have c87 : H7.c p (7 + 1) = some (Value.slice va e.asks.length vc) := by rw [k17.cell p _ (by omega) hp8]; exact c82
      have hlop := (hA.k.lt hA.k.kp (by omega)).1
      simp (disch := omega) only [go_sem, ↓reduceIte , hone7, c87]
      refine ⟨dkeep_last (by kernel_rfl), dkeep_last (by kernel_rfl), ?_⟩
      have hEC : EngC (H7.put p (7 + 1) v7) p { e with asks := e.asks ++ [x] } { y with v8 := v7, o8 := own7 } := by
        have hc7 := hA2.c.same (H' := H7) (fun o => k17.cell p o (by omega) hp8)
        obtain ⟨d0, d1, d2, d3, d4, d5, d6, d7, d8, d9, d10, d11, d12, d13⟩ := hc7
        exact ⟨by simp (disch := omega) only [go_sem, ↓reduceIte , d0], by simp (disch := omega) only [go_sem, ↓reduceIte , d1], by simp (disch := omega) only [go_sem, ↓reduceIte , d2], by simp (disch := omega) only [go_sem, ↓reduceIte , d3], by simp (disch := omega) only [go_sem, ↓reduceIte , d4], by simp (disch := omega) only [go_sem, ↓reduceIte , d5], by simp (disch := omega) only [go_sem, ↓reduceIte , d6], by simp (disch := omega) only [go_sem, ↓reduceIte , d7], by simp (disch := omega) only [go_sem, ↓reduceIte ], by simp (disch := omega) only [go_sem, ↓reduceIte , d9], by simp (disch := omega) only [go_sem, ↓reduceIte , d10], by simp (disch := omega) only [go_sem, ↓reduceIte , d11], by simp (disch := omega) only [go_sem, ↓reduceIte , d12], by simp (disch := omega) only [go_sem, ↓reduceIte , d13]⟩
      have hcl : ∀ b, b + 1 = own7 → col b = 0 ∨ col b = 8 := fun b hb => by
        rcases ho7 with ho7 | ho7
        · exact .inr (hA.k.k8 b (by omega))
        · refine .inl (Classical.byContradiction fun hc => ?_)
          have := hA.k.rng b hc
          omega
      have kk : Kp (fun b => b = p ∨ b + 1 = y.o8) nx1 H1 (H7.put p (7 + 1) v7) := (by repeat first | exact Kp.refl _ _ _ | refine Kp.dropT ?_ (.inl (by omega)) | refine Kp.put ?_ (.inl (by omega)) | refine Kp.new ?_ (by omega) | refine Kp.put ?_ (.inr (by omega)) | refine Kp.newO ?_ (by omega) | refine Kp.setO ?_ (.inl (by omega)) | refine Kp.setO ?_ (.inr (by omega)) | refine Kp.trans0 ?_ (by assumption) (by omega) | refine Kp.transS ?_ (by assumption) (by omega) (fun b hb hT => by first | omega | (dsimp only at hT ⊢; omega) | (simp only at hT ⊢; omega))) 
      have hfin := hA2.setAsks (nx' := nx7) (by omega) kk hEC (by
        rw [List.length_append, ptCells_append]
        exact hs7.put (by
          rcases ho7 with ho7 | ho7
          · omega
          · omega)) (by omega) hcl
      refine ⟨{ y with v8 := v7, o8 := own7 }, recol col own7 8, rfl, rfl, rfl, ⟨by omega, k2.trans (U := fun b => col b ≠ 0) kk (by omega) (fun _ _ h => h.elim) (fun b _ h => by
        rcases h with h | h
        · rw [h, hA.k.kp]; omega
        · rw [hA.k.k8 b h]; omega), by rw [he]; exact hfin, recol_fp (fun b hb => by
        rcases ho7 with ho7 | ho7
        · refine .inl ?_
          rw [hA.k.k8 b (by omega)]; omega
        · exact .inr (by omega))⟩⟩
    · have he : askE e.asks x = e.asks := by unfold askE; rw [if_pos (.inr (by omega))]
      simp (disch := omega) only [go_sem, ↓reduceIte ]
      exact ⟨y, col, rfl, rfl, rfl, by rw [he]; exact (EngS.refl hA).still k2 (by omega)⟩
end Go.Proofs.YtngnbafididkcaaGreat
end
section
namespace Go.Proofs.YtngnbafididkcaaGreat
open Go.RowKit
set_option linter.unusedSimpArgs false

theorem EngC.put7 {H : AH} {p : Nat} {e : Eng} {y : ELay} (h : EngC H p e y) {l : List (Int × Int)} {v : Value} (o : Nat) : EngC (H.put p 7 v) p { e with lost := l } { y with v7 := v, o7 := o } := by
  obtain ⟨d0, d1, d2, d3, d4, d5, d6, d7, d8, d9, d10, d11, d12, d13⟩ := h
  exact ⟨by simp (disch := omega) only [go_sem, ↓reduceIte , d0], by simp (disch := omega) only [go_sem, ↓reduceIte , d1], by simp (disch := omega) only [go_sem, ↓reduceIte , d2], by simp (disch := omega) only [go_sem, ↓reduceIte , d3], by simp (disch := omega) only [go_sem, ↓reduceIte , d4], by simp (disch := omega) only [go_sem, ↓reduceIte , d5], by simp (disch := omega) only [go_sem, ↓reduceIte , d6], by simp (disch := omega) only [go_sem, ↓reduceIte ], by simp (disch := omega) only [go_sem, ↓reduceIte , d8], by simp (disch := omega) only [go_sem, ↓reduceIte , d9], by simp (disch := omega) only [go_sem, ↓reduceIte , d10], by simp (disch := omega) only [go_sem, ↓reduceIte , d11], by simp (disch := omega) only [go_sem, ↓reduceIte , d12], by simp (disch := omega) only [go_sem, ↓reduceIte , d13]⟩
theorem EngC.put5 {H : AH} {p : Nat} {e : Eng} {y : ELay} (h : EngC H p e y) {l : List Rt} {v : Value} (o : Nat) : EngC (H.put p 5 v) p { e with sel := l } { y with v5 := v, o5 := o } := by
  obtain ⟨d0, d1, d2, d3, d4, d5, d6, d7, d8, d9, d10, d11, d12, d13⟩ := h
  exact ⟨by simp (disch := omega) only [go_sem, ↓reduceIte , d0], by simp (disch := omega) only [go_sem, ↓reduceIte , d1], by simp (disch := omega) only [go_sem, ↓reduceIte , d2], by simp (disch := omega) only [go_sem, ↓reduceIte , d3], by simp (disch := omega) only [go_sem, ↓reduceIte , d4], by simp (disch := omega) only [go_sem, ↓reduceIte ], by simp (disch := omega) only [go_sem, ↓reduceIte , d6], by simp (disch := omega) only [go_sem, ↓reduceIte , d7], by simp (disch := omega) only [go_sem, ↓reduceIte , d8], by simp (disch := omega) only [go_sem, ↓reduceIte , d9], by simp (disch := omega) only [go_sem, ↓reduceIte , d10], by simp (disch := omega) only [go_sem, ↓reduceIte , d11], by simp (disch := omega) only [go_sem, ↓reduceIte , d12], by simp (disch := omega) only [go_sem, ↓reduceIte , d13]⟩
theorem EngC.put9 {H : AH} {p : Nat} {e : Eng} {y : ELay} (h : EngC H p e y) (d : Bool) : EngC (H.put p (7 + 1 + 1) (.bool d)) p { e with due := d } y := by
  obtain ⟨d0, d1, d2, d3, d4, d5, d6, d7, d8, d9, d10, d11, d12, d13⟩ := h
  exact ⟨by simp (disch := omega) only [go_sem, ↓reduceIte , d0], by simp (disch := omega) only [go_sem, ↓reduceIte , d1], by simp (disch := omega) only [go_sem, ↓reduceIte , d2], by simp (disch := omega) only [go_sem, ↓reduceIte , d3], by simp (disch := omega) only [go_sem, ↓reduceIte , d4], by simp (disch := omega) only [go_sem, ↓reduceIte , d5], by simp (disch := omega) only [go_sem, ↓reduceIte , d6], by simp (disch := omega) only [go_sem, ↓reduceIte , d7], by simp (disch := omega) only [go_sem, ↓reduceIte , d8], by simp (disch := omega) only [go_sem, ↓reduceIte ], by simp (disch := omega) only [go_sem, ↓reduceIte , d10], by simp (disch := omega) only [go_sem, ↓reduceIte , d11], by simp (disch := omega) only [go_sem, ↓reduceIte , d12], by simp (disch := omega) only [go_sem, ↓reduceIte , d13]⟩
theorem lostE_snoc (l a : List Rt) (x : Rt) : lostE l (a ++ [x]) = lostE l a ++ (if l.any (fun r => samePx r x.addr x.len) = true then [] else [(x.addr, x.len)]) := by
  unfold lostE
  rw [List.filter_append, List.map_append]
  congr 1
  cases h : l.any (fun r => samePx r x.addr x.len) <;> simp [h]
theorem lostE_len (l a : List Rt) : (lostE l a).length ≤ a.length := by
  unfold lostE
  rw [List.length_map]
  exact List.length_filter_le _ _
structure LoI (lo nx0 : Nat) (H0 : AH) (p : Nat) (col0 : Nat → Nat) (bE bL : Nat) (e : Eng) (L : List Rt) (v : Value) (own : Nat) (v5 : Value) (m : Nat) (env : Env) (H : AH) (nx i : Nat) (y : ELay) (col : Nat → Nat) : Prop where
  hm : m = e.sel.length - i
  hi : i ≤ e.sel.length
  henv : env = [(1, .pointer (some ⟨bE, 0, none⟩)), (3, .pointer (some ⟨bL, 0, none⟩)), (94, v5), (95, .int .i64 e.sel.length), (96, .int .i64 i)]
  a : AddI lo nx0 H0 p col0 bE bL { e with lost := e.lost ++ lostE L (e.sel.take i) } L H nx y col v own
  hv : y.v5 = v5
noncomputable def selL4 : Code := codeAt [.T, .T, .T, .T, .T, .T, .T, .T, .T, .H, .T, .C, .T, .H, .T, .I] ((Tryz.f17.body).getD .skip)
set_option maxHeartbeats 4000000 in
set_option maxRecDepth 20000 in
theorem sel_lost {lo nx0 : Nat} {H0 : AH} {p : Nat} {col0 : Nat → Nat} {bE bL : Nat} {e : Eng} {L : List Rt} {H1 : AH} {nx1 : Nat} {y1 : ELay} {c1 : Nat → Nat} {v : Value} {own : Nat} {v5 : Value} {K0 : Env → AH → Nat → Prop} {Q : Exit → Env → AH → Nat → Prop}
    (hv1 : y1.v5 = v5) (h1 : AddI lo nx0 H0 p col0 bE bL e L H1 nx1 y1 c1 v own) (hL : L.length ≤ 1000000) (hsl : e.sel.length ≤ 1000000) (hll : e.lost.length ≤ 1000000) (hlo0 : lo ≤ nx0)
    (hK : ∀ H nx y col, AddI lo nx0 H0 p col0 bE bL { e with lost := e.lost ++ lostE L e.sel } L H nx y col v own → K0 [(1, .pointer (some ⟨bE, 0, none⟩)), (3, .pointer (some ⟨bL, 0, none⟩)), (94, v5), (95, .int .i64 e.sel.length), (96, .int .i64 e.sel.length), (97, .bool false)] H nx) :
    awp Tryz.prog lo L17 selL4 (blockQ 6 (thenQ K0 Q)) [(1, .pointer (some ⟨bE, 0, none⟩)), (3, .pointer (some ⟨bL, 0, none⟩)), (94, v5), (95, .int .i64 e.sel.length), (96, .int .i64 (0 : Nat))] H1 nx1 := by
  have hcode : selL4 = codeAt [.T, .T, .T, .T, .T, .T, .T, .T, .T, .H, .T, .C, .T, .H, .T, .I] ((Tryz.f17.body).getD .skip) := rfl
  simp only [Tryz.f17, Option.getD_some, codeAt_H, codeAt_T, codeAt_I, codeAt_L, codeAt_C, codeAt_P, codeAt_nil] at hcode
  rw [hcode]
  clear hcode
  refine awp_loop (fun m env H nx => ∃ i y col, LoI lo nx0 H0 p col0 bE bL e L v own v5 m env H nx i y col) e.sel.length ⟨0, y1, c1, ⟨by omega, by omega, rfl, by simpa [lostE] using h1, hv1⟩⟩ (fun m env H nx ⟨i, y, col, hI⟩ hn => ?_)
  obtain ⟨hm, hi, henv, hA, hv5⟩ := hI
  subst henv
  have hs := hA.st.a.s5
  rw [hv5] at hs
  obtain ⟨aa, ac, rfl⟩ := hs.form
  simp only at hs
  by_cases hlt : i < e.sel.length
  · obtain ⟨g, off, cap, hv, hgo⟩ := hs.open (by omega)
    simp only [Value.slice.injEq, true_and] at hv
    obtain ⟨rfl, rfl⟩ := hv
    have hx0 : e.sel[i]? = some e.sel[i] := List.getElem?_eq_getElem hlt
    have hld := rt_load hs hx0
    have htk : e.sel.take (i + 1) = e.sel.take i ++ [e.sel[i]] := by rw [List.take_succ_eq_append_getElem hlt]
    generalize e.sel[i] = x at hld hx0 htk
    unfold Rt.cells at hld
    have hlo : lo ≤ nx := by have := hA.st.le; omega
    have hlE := hA.lE
    have hlL := hA.lL
    have cL := hA.cL
    have hov := hA.sl.one
    have hcast : ((i : Int) + 1) = ((i + 1 : Nat) : Int) := by omega
    simp (disch := omega) only [go_sem, ↓reduceIte , hld]
    intro d hd
    have kd : Kp (fun _ => False) nx H (((((H.new d #[.int .u32 0, .int .u8 0, .int .i64 0, .int .u16 0, .int .u16 0] 40).put d 0 (.int .u32 x.addr)).put d 1 (.int .u8 x.len)).put d (1 + 1) (.int .i64 x.via)).put d (1 + 1 + 1) (.int .u16 x.metric) |>.put d (1 + 1 + 1 + 1) (.int .u16 x.seq)) := (by repeat first | exact Kp.refl _ _ _ | refine Kp.dropT ?_ (.inl (by omega)) | refine Kp.put ?_ (.inl (by omega)) | refine Kp.new ?_ (by omega) | refine Kp.put ?_ (.inr (by omega)) | refine Kp.newO ?_ (by omega) | refine Kp.setO ?_ (.inl (by omega)) | refine Kp.setO ?_ (.inr (by omega)) | refine Kp.trans0 ?_ (by assumption) (by omega) | refine Kp.transS ?_ (by assumption) (by omega) (fun b hb hT => by first | omega | (dsimp only at hT ⊢; omega) | (simp only at hT ⊢; omega))) 
    have hA1 := hA.still kd (show nx ≤ d + 1 by omega)
    simp (disch := omega) only [go_sem, ↓reduceIte , cL, hov]
    refine (ehas_c hA1.sl hL x.addr x.len).mono fun r H2 nx2 _ ⟨hr, hx2, hk2⟩ => ?_
    subst hr
    have hA2 := hA1.still hk2 hx2
    have sn := lostE_snoc L (e.sel.take i) x
    rw [← htk] at sn
    cases hh : L.any (fun r => samePx r x.addr x.len) with
    | true =>
      rw [hh, if_pos rfl, List.append_nil] at sn
      simp (disch := omega) only [go_sem, ↓reduceIte , hcast]
      refine ⟨e.sel.length - (i + 1), by omega, i + 1, y, col, ⟨rfl, by omega, rfl, by rw [sn]; exact hA2, hv5⟩⟩
    | false =>
      rw [hh, if_neg (by simp)] at sn
      simp (disch := omega) only [go_sem, ↓reduceIte ]
      have cE2 := hA2.cE
      have c72 := hA2.st.a.c.c7
      have hpn := (hA.st.a.k.lt hA.st.a.k.kp (by omega))
      have hs7 := hA2.st.a.s7
      have ho7v := hs7.one
      obtain ⟨va, vc, hform⟩ := hs7.form
      rw [hform] at c72 ho7v hs7
      have cd0 : H2.c d 0 = some (.int .u32 x.addr) := by rw [hk2.cell0 d _ (by omega)]; simp (disch := omega) only [go_sem, ↓reduceIte ]
      have cd1 : H2.c d 1 = some (.int .u8 x.len) := by rw [hk2.cell0 d _ (by omega)]; simp (disch := omega) only [go_sem, ↓reduceIte ]
      obtain ⟨u, huE, hup, hud, hu⟩ : ∃ u, bE ≠ u ∧ p ≠ u ∧ d ≠ u ∧ ∀ b, b + 1 = y.o7 → b = u := by
        have hlE2 := hA2.lE
        have hpn2 := hA2.st.a.k.lt hA2.st.a.k.kp (by omega)
        by_cases h0 : y.o7 = 0
        · exact ⟨nx2, by omega, by omega, by omega, fun b hb => by omega⟩
        · have h7 := hA.st.a.k.k7 (y.o7 - 1) (by omega)
          have h7n := hA.st.a.k.lt h7 (by omega)
          exact ⟨y.o7 - 1, fun hc => by rw [← hc, hA.kE] at h7; omega, fun hc => by rw [← hc, hA.st.a.k.kp] at h7; omega, by omega, fun b hb => by omega⟩
      refine awp_drawS ord17x28 _ (hide_sub _ u) (by kernel_rfl) ?_
      simp (disch := omega) only [go_sem, ↓reduceIte , ord17x28, cE2, c72, cd0, cd1]
      refine buildSQ_all (n := 1) [.agg #[.int .u32 x.addr, .int .u8 x.len]] sl46 zero30 (by omega) (by omega) rfl (by simp [cells_agg]) fun f hf => ?_
      have hlit := px_lit H2 f 30 x.addr x.len
      have how := hA2.st.a.k.w7
      have hs6 := hs7.new (vs := ([Value.agg #[.int .u32 x.addr, .int .u8 x.len]].flatMap fun v => v.cells.toList).toArray) (e := 30) hf
      have hllen := lostE_len L (e.sel.take i)
      rw [List.length_take] at hllen
      simp (disch := omega) only [go_sem, ↓reduceIte ]
      refine ⟨dkeep_hide (by repeat first | exact Kp.refl _ _ _ | refine Kp.dropT ?_ (.inl (by omega)) | refine Kp.put ?_ (.inl (by omega)) | refine Kp.new ?_ (by omega) | refine Kp.put ?_ (.inr (by omega)) | refine Kp.newO ?_ (by omega) | refine Kp.setO ?_ (.inl (by omega)) | refine Kp.setO ?_ (.inr (by omega)) | refine Kp.trans0 ?_ (by assumption) (by omega) | refine Kp.transS ?_ (by assumption) (by omega) (fun b hb hT => by first | omega | (dsimp only at hT ⊢; omega) | (simp only at hT ⊢; omega))) , ?_⟩
      refine appendQ_two (aw_append sl46 zero30 rfl by30 hs6 (hlit.src sl46 pxC_one) (by simp only [maxLen, List.length_append]; omega) (by rw [List.length_append]; omega) (by omega) fun v7 H7 nx7 own7 hn7 hs7 ho7 hk7 _ => ?_)
      have hone7 := hs7.one
      have hp8 : p + 1 ≠ y.o7 := fun hc => by
        have := hA2.st.a.k.k7 p hc
        have := hA2.st.a.k.kp
        omega
      have k17 : Kp (fun b => b + 1 = y.o7) nx2 H2 H7 := (by repeat first | exact Kp.refl _ _ _ | refine Kp.dropT ?_ (.inl (by omega)) | refine Kp.put ?_ (.inl (by omega)) | refine Kp.new ?_ (by omega) | refine Kp.put ?_ (.inr (by omega)) | refine Kp.newO ?_ (by omega) | refine Kp.setO ?_ (.inl (by omega)) | refine Kp.setO ?_ (.inr (by omega)) | refine Kp.trans0 ?_ (by assumption) (by omega) | refine Kp.transS ?_ (by assumption) (by omega) (fun b hb hT => by first | omega | (dsimp only at hT ⊢; omega) | (simp only at hT ⊢; omega))) 
      have hpn2 := hA2.st.a.k.lt hA2.st.a.k.kp (by omega)
      have c87 : H7.c p 7 = some (Value.slice va (e.lost ++ lostE L (List.take i e.sel)).length vc) := by rw [k17.cell p _ (by omega) hp8]; exact c72
      have hlop := hpn2.1
      simp (disch := omega) only [go_sem, ↓reduceIte , hone7, c87]
      refine ⟨dkeep_hide (k17.mono (Nat.le_refl _) (fun b _ h => hu b h)), dkeep_last (by kernel_rfl), ?_⟩
      have hEC : EngC (H7.put p 7 v7) p { e with lost := (e.lost ++ lostE L (e.sel.take i)) ++ [(x.addr, x.len)] } { y with v7 := v7, o7 := own7 } :=
        (hA2.st.a.c.same (H' := H7) (fun o => k17.cell p o (by omega) hp8)).put7 own7
      have hcl : ∀ b, b + 1 = own7 → col b = 0 ∨ col b = 7 := fun b hb => by
        rcases ho7 with ho7 | ho7
        · exact .inr (hA2.st.a.k.k7 b (by omega))
        · refine .inl (Classical.byContradiction fun hc => ?_)
          have := hA2.st.a.k.rng b hc
          omega
      have kk : Kp (fun b => b = p ∨ b + 1 = y.o7) nx2 H2 (H7.put p 7 v7) := (by repeat first | exact Kp.refl _ _ _ | refine Kp.dropT ?_ (.inl (by omega)) | refine Kp.put ?_ (.inl (by omega)) | refine Kp.new ?_ (by omega) | refine Kp.put ?_ (.inr (by omega)) | refine Kp.newO ?_ (by omega) | refine Kp.setO ?_ (.inl (by omega)) | refine Kp.setO ?_ (.inr (by omega)) | refine Kp.trans0 ?_ (by assumption) (by omega) | refine Kp.transS ?_ (by assumption) (by omega) (fun b hb hT => by first | omega | (dsimp only at hT ⊢; omega) | (simp only at hT ⊢; omega))) 
      have hfin := hA2.st.a.setLost (nx' := nx7) (by omega) kk hEC (by
        rw [List.length_append, pxC_append]
        exact hs7.put (by
          rcases ho7 with ho7 | ho7
          · omega
          · omega)) (by omega) hcl
      have hs8 : EngS lo nx2 H2 p col { e with lost := (e.lost ++ lostE L (e.sel.take i)) ++ [(x.addr, x.len)] } (H7.put p 7 v7) nx7 { y with v7 := v7, o7 := own7 } (recol col own7 7) :=
        ⟨by omega, kk.mono (Nat.le_refl _) (fun b _ h => by
          rcases h with h | h
          · rw [h, hA2.st.a.k.kp]; omega
          · rw [hA2.st.a.k.k7 b h]; omega), hfin, recol_fp (fun b hb => by
          rcases ho7 with ho7 | ho7
          · refine .inl ?_
            rw [hA2.st.a.k.k7 b (by omega)]; omega
          · exact .inr (by omega))⟩
      rw [hcast]
      refine ⟨e.sel.length - (i + 1), by omega, i + 1, { y with v7 := v7, o7 := own7 }, recol col own7 7, ⟨rfl, by omega, rfl, ?_, hv5⟩⟩
      rw [sn, ← List.append_assoc]
      exact hA2.eng hs8
  · have ei : i = e.sel.length := by omega
    subst ei
    rw [List.take_length] at hA
    simp (disch := omega) only [go_sem, ↓reduceIte ]
    exact hK _ _ _ _ hA
end Go.Proofs.YtngnbafididkcaaGreat
end
section
namespace Go.Proofs.YtngnbafididkcaaGreat
open Go.RowKit
set_option linter.unusedSimpArgs false

theorem want_some {es : List Ent} (hs : SortE es) {a n s m : Int} {ok : Bool} (h : markR es a n s m ok) (hok : ok = true) : ∃ x, wantE es a n = some x ∧ x.seq = s := by
  rcases h with ⟨_, x, hx, h1, h2, h3, _⟩ | ⟨h, _⟩
  · cases hw : wantE es a n with
    | none =>
      unfold wantE at hw
      rw [List.find?_eq_none] at hw
      exact absurd (show _ = true by simp [h1, h2]) (hw x hx)
    | some z =>
      unfold wantE at hw
      have hz := List.find?_some hw
      have hm := List.mem_of_find?_eq_some hw
      simp only [Bool.and_eq_true, decide_eq_true_eq] at hz
      have : z = x := hs.uniq hm hx (a := a) (n := n) hz ⟨h1, h2⟩
      subst this
      exact ⟨z, rfl, h3⟩
  · rw [hok] at h; cases h
theorem want_none {es : List Ent} {a n s m : Int} {ok : Bool} (h : markR es a n s m ok) (hok : ok = false) : wantE es a n = none := by
  rcases h with ⟨h, _⟩ | ⟨_, _, _, h⟩
  · rw [hok] at h; cases h
  · unfold wantE
    rw [List.find?_eq_none]
    intro x hx
    have := h x hx
    simp only [Bool.and_eq_true, decide_eq_true_eq]
    exact this
theorem blkE_len (es : List Ent) (l : List Rt) (b : Rt) (qs : List Prt) (h : qs.length ≤ 16) : (blkE es l qs b).length ≤ 16 := by
  unfold blkE
  split
  · split
    · exact h
    · exact askE_len _ _ h
  · exact h
theorem blks_len (es : List Ent) (l : List Rt) : ∀ (bl : List Rt) (qs : List Prt), qs.length ≤ 16 → (bl.foldl (blkE es l) qs).length ≤ 16
  | [], _, h => h
  | b :: r, qs, h => blks_len es l r _ (blkE_len es l b qs h)
/-- Behind the list: it is one of its own, or what is chosen. -/
structure TlI (lo nx0 : Nat) (H0 : AH) (p : Nat) (col0 : Nat → Nat) (bE bL : Nat) (e : Eng) (L : List Rt) (H : AH) (nx : Nat) (y : ELay) (col : Nat → Nat) (v : Value) : Prop where
  st : EngS lo nx0 H0 p col0 e H nx y col
  gE : nx0 ≤ bE
  lE : bE < nx
  kE : col bE = 0
  cE : H.c bE 0 = some (.pointer (some ⟨p, 0, none⟩))
  gL : nx0 ≤ bL
  lL : bL < nx
  kL : col bL = 0
  cL : H.c bL 0 = some v
  sl : ∃ own, SlA nx H 5 v L.length (rtCells L) own ∧ ((∀ b, b + 1 = own → col b = 0) ∨ (v = y.v5 ∧ own = y.o5 ∧ L = e.sel))
theorem AddI.tl {lo nx0 nx : Nat} {H0 H : AH} {p : Nat} {col0 col : Nat → Nat} {bE bL : Nat} {e : Eng} {L : List Rt} {y : ELay} {v : Value} {own : Nat} (h : AddI lo nx0 H0 p col0 bE bL e L H nx y col v own) : TlI lo nx0 H0 p col0 bE bL e L H nx y col v :=
  ⟨h.st, h.gE, h.lE, h.kE, h.cE, h.gL, h.lL, h.kL, h.cL, own, h.sl, .inl h.ko⟩
theorem TlI.eng {lo nx0 nx nx' : Nat} {H0 H H' : AH} {p : Nat} {col0 col col' : Nat → Nat} {bE bL : Nat} {e e' : Eng} {L : List Rt} {y y' : ELay} {v : Value} (h : TlI lo nx0 H0 p col0 bE bL e L H nx y col v) (s : EngS lo nx H p col e' H' nx' y' col') (h5 : y'.v5 = y.v5) (h6 : y'.o5 = y.o5) (h7 : e'.sel = e.sel) : TlI lo nx0 H0 p col0 bE bL e' L H' nx' y' col' v := by
  have z : ∀ b, col b = 0 → b < nx → col' b = 0 := fun b h0 hb => by
    refine Classical.byContradiction fun hc => ?_
    rcases s.fp b hc with h1 | h1
    · exact h1 h0
    · omega
  refine ⟨h.st.trans s, h.gE, by have := h.lE; have := s.le; omega, z _ h.kE h.lE, ?_, h.gL, by have := h.lL; have := s.le; omega, z _ h.kL h.lL, ?_, ?_⟩
  · rw [s.kp.cell bE 0 h.lE (by rw [h.kE]; simp)]; exact h.cE
  · rw [s.kp.cell bL 0 h.lL (by rw [h.kL]; simp)]; exact h.cL
  · obtain ⟨own, hs, hr⟩ := h.sl
    have hle := hs.le
    rcases hr with hr | ⟨r1, r2, r3⟩
    · exact ⟨own, hs.kp s.kp s.le (fun b hb => by rw [hr b hb]; simp), .inl fun b hb => z _ (hr b hb) (by omega)⟩
    · have := s.a.s5
      rw [h5, h6, h7, ← r1, ← r2, ← r3] at this
      exact ⟨own, this, .inr ⟨by rw [h5]; exact r1, by rw [h6]; exact r2, by rw [h7]; exact r3⟩⟩
theorem TlI.still {lo nx0 nx nx' : Nat} {H0 H H' : AH} {p : Nat} {col0 col : Nat → Nat} {bE bL : Nat} {e : Eng} {L : List Rt} {y : ELay} {v : Value} (h : TlI lo nx0 H0 p col0 bE bL e L H nx y col v) (hk : Kp (fun _ => False) nx H H') (hn : nx ≤ nx') : TlI lo nx0 H0 p col0 bE bL e L H' nx' y col v :=
  h.eng ((EngS.refl h.st.a).still hk hn) rfl rfl rfl
structure BkI (lo nx0 : Nat) (H0 : AH) (p : Nat) (col0 : Nat → Nat) (bE bL : Nat) (e : Eng) (L : List Rt) (v : Value) (bl : List Rt) (sv : Value) (H1 : AH) (nx1 : Nat) (c1 : Nat → Nat) (m : Nat) (env : Env) (H : AH) (nx i : Nat) (y : ELay) (col : Nat → Nat) : Prop where
  hm : m = bl.length - i
  hi : i ≤ bl.length
  henv : env = [(1, .pointer (some ⟨bE, 0, none⟩)), (3, .pointer (some ⟨bL, 0, none⟩)), (131, sv), (132, .int .i64 bl.length), (133, .int .i64 i)]
  a : TlI lo nx0 H0 p col0 bE bL { e with asks := (bl.take i).foldl (blkE e.es L) e.asks } L H nx y col v
  s : AddS nx1 H1 c1 bL 0 H nx col 0
noncomputable def selL5 : Code := codeAt [.T, .T, .T, .T, .T, .T, .T, .T, .T, .T, .H, .T, .I] ((Tryz.f17.body).getD .skip)
set_option maxHeartbeats 4000000 in
set_option maxRecDepth 20000 in
theorem sel_blk {lo nx0 : Nat} {H0 : AH} {p : Nat} {col0 : Nat → Nat} {bE bL : Nat} {e : Eng} {L : List Rt} {H1 : AH} {nx1 : Nat} {y1 : ELay} {c1 : Nat → Nat} {v : Value} {bl : List Rt} {sv : Value} {ow : Nat} {K0 : Env → AH → Nat → Prop} {Q : Exit → Env → AH → Nat → Prop}
    (h1 : TlI lo nx0 H0 p col0 bE bL e L H1 nx1 y1 c1 v) (hs : SlA nx1 H1 2 sv bl.length (prCells bl) ow) (hso : ∀ b, b + 1 = ow → c1 b = 0 ∧ b ≠ bL) (hbl : bl.length ≤ 1000000) (hL : L.length ≤ 1000000) (hel : e.es.length ≤ 1000000) (hal : e.asks.length ≤ 16) (hlo0 : lo ≤ nx0)
    (hK : ∀ H nx y col, TlI lo nx0 H0 p col0 bE bL { e with asks := bl.foldl (blkE e.es L) e.asks } L H nx y col v → K0 [(1, .pointer (some ⟨bE, 0, none⟩)), (3, .pointer (some ⟨bL, 0, none⟩)), (131, sv), (132, .int .i64 bl.length), (133, .int .i64 bl.length), (134, .bool false)] H nx) :
    awp Tryz.prog lo L17 selL5 (blockQ 8 (thenQ K0 Q)) [(1, .pointer (some ⟨bE, 0, none⟩)), (3, .pointer (some ⟨bL, 0, none⟩)), (131, sv), (132, .int .i64 bl.length), (133, .int .i64 (0 : Nat))] H1 nx1 := by
  have hcode : selL5 = codeAt [.T, .T, .T, .T, .T, .T, .T, .T, .T, .T, .H, .T, .I] ((Tryz.f17.body).getD .skip) := rfl
  simp only [Tryz.f17, Option.getD_some, codeAt_H, codeAt_T, codeAt_I, codeAt_L, codeAt_C, codeAt_P, codeAt_nil] at hcode
  rw [hcode]
  clear hcode
  refine awp_loop (fun m env H nx => ∃ i y col, BkI lo nx0 H0 p col0 bE bL e L v bl sv H1 nx1 c1 m env H nx i y col) bl.length ⟨0, y1, c1, ⟨by omega, by omega, rfl, h1, AddS.refl⟩⟩ (fun m env H nx ⟨i, y, col, hI⟩ hn => ?_)
  obtain ⟨hm, hi, henv, hA, hS⟩ := hI
  subst henv
  obtain ⟨aa, ac, rfl⟩ := hs.form
  by_cases hlt : i < bl.length
  · obtain ⟨g, off, cap, hv, hgo⟩ := hs.open (by omega)
    simp only [Value.slice.injEq, true_and] at hv
    obtain ⟨rfl, rfl⟩ := hv
    have hsn := hs.kp hS.kp hS.le (fun b hb h => by have := hso b hb; omega)
    have hx0 : bl[i]? = some bl[i] := List.getElem?_eq_getElem hlt
    have hld := pr_load hsn hx0
    have htk : bl.take (i + 1) = bl.take i ++ [bl[i]] := by rw [List.take_succ_eq_append_getElem hlt]
    generalize bl[i] = x at hld hx0 htk
    have hfs : (bl.take (i + 1)).foldl (blkE e.es L) e.asks = blkE e.es L ((bl.take i).foldl (blkE e.es L) e.asks) x := by rw [htk, List.foldl_append]; rfl
    have hal2 := blks_len e.es L (bl.take i) e.asks hal
    generalize hei : ({ e with asks := (bl.take i).foldl (blkE e.es L) e.asks } : Eng) = ei at hA
    have eas : ei.asks = (bl.take i).foldl (blkE e.es L) e.asks := by rw [← hei]
    have ees : ei.es = e.es := by rw [← hei]
    have hlo : lo ≤ nx := by have := hA.st.le; omega
    have hlE := hA.lE
    have hlL := hA.lL
    have cL := hA.cL
    have cE := hA.cE
    have c3 := hA.st.a.c.c3
    have hov : v.oneCell' = true := by
      obtain ⟨own, hsl, _⟩ := hA.sl
      exact hsl.one
    have hpn := (hA.st.a.k.lt hA.st.a.k.kp (by omega)).2
    have hcast : ((i : Int) + 1) = ((i + 1 : Nat) : Int) := by omega
    have fin : ∀ (H' : AH) (nx' : Nat) (y' : ELay) (col' : Nat → Nat), TlI lo nx0 H0 p col0 bE bL { ei with asks := blkE e.es L ei.asks x } L H' nx' y' col' v → AddS nx1 H1 c1 bL 0 H' nx' col' 0 →
        ∃ m', m' < m ∧ ∃ j y col, BkI lo nx0 H0 p col0 bE bL e L v bl (.slice (some ⟨g, off, none⟩) bl.length ac) H1 nx1 c1 m' [(1, .pointer (some ⟨bE, 0, none⟩)), (3, .pointer (some ⟨bL, 0, none⟩)), (131, .slice (some ⟨g, off, none⟩) bl.length ac), (132, .int .i64 bl.length), (133, .int .i64 (i + 1 : Nat))] H' nx' j y col := fun H' nx' y' col' ha hsx => by
      refine ⟨bl.length - (i + 1), by omega, i + 1, y', col', ⟨rfl, by omega, rfl, ?_, hsx⟩⟩
      rw [hfs, ← eas]
      rw [← hei] at ha ⊢
      exact ha
    have fin0 : blkE e.es L ei.asks x = ei.asks → ∀ (H' : AH) (nx' : Nat), TlI lo nx0 H0 p col0 bE bL ei L H' nx' y col v → AddS nx1 H1 c1 bL 0 H' nx' col 0 →
        ∃ m', m' < m ∧ ∃ j y col, BkI lo nx0 H0 p col0 bE bL e L v bl (.slice (some ⟨g, off, none⟩) bl.length ac) H1 nx1 c1 m' [(1, .pointer (some ⟨bE, 0, none⟩)), (3, .pointer (some ⟨bL, 0, none⟩)), (131, .slice (some ⟨g, off, none⟩) bl.length ac), (132, .int .i64 bl.length), (133, .int .i64 (i + 1 : Nat))] H' nx' j y col := fun h H' nx' ha hsx => fin H' nx' y col (by rw [h]; exact ha) hsx
    simp (disch := omega) only [go_sem, ↓reduceIte , hld]
    intro d hd
    have kd : Kp (fun _ => False) nx H ((H.new d #[.int .u32 0, .int .u8 0] 30).put d 0 (.int .u32 x.addr) |>.put d 1 (.int .u8 x.len)) := (by repeat first | exact Kp.refl _ _ _ | refine Kp.dropT ?_ (.inl (by omega)) | refine Kp.put ?_ (.inl (by omega)) | refine Kp.new ?_ (by omega) | refine Kp.put ?_ (.inr (by omega)) | refine Kp.newO ?_ (by omega) | refine Kp.setO ?_ (.inl (by omega)) | refine Kp.setO ?_ (.inr (by omega)) | refine Kp.trans0 ?_ (by assumption) (by omega) | refine Kp.transS ?_ (by assumption) (by omega) (fun b hb hT => by first | omega | (dsimp only at hT ⊢; omega) | (simp only at hT ⊢; omega))) 
    have hA1 := hA.still kd (show nx ≤ d + 1 by omega)
    have hS1 := hS.still kd (show nx ≤ d + 1 by omega)
    simp (disch := omega) only [go_sem, ↓reduceIte ]
    refine awp_draw ord17x34 (by kernel_rfl) ?_
    simp (disch := omega) only [go_sem, ↓reduceIte , ord17x34, cE, c3]
    refine (swants_c hA1.st.a.so (by rw [ees]; exact hel) x.addr x.len).mono fun r H2 nx2 _ ⟨hx2, hk2, s, mm, ok, hr, hmk⟩ => ?_
    subst hr
    simp (disch := omega) only [go_sem, ↓reduceIte , ord17x34]
    refine ⟨dkeep_kp hk2, ?_⟩
    have hA2 := hA1.still hk2 hx2
    have hS2 := hS1.still hk2 hx2
    have srt := hA.st.a.so.sorted
    rw [ees] at srt hmk
    cases ok with
    | false =>
      have hw := want_none hmk rfl
      simp (disch := omega) only [go_sem, ↓reduceIte , hcast]
      exact fin0 (by unfold blkE; rw [hw]) _ _ hA2 hS2
    | true =>
      obtain ⟨z, hw, hz⟩ := want_some srt hmk rfl
      have cL2 := hA2.cL
      have cd0 : H2.c d 0 = some (.int .u32 x.addr) := by rw [hk2.cell0 d _ (by omega)]; simp (disch := omega) only [go_sem, ↓reduceIte ]
      have cd1 : H2.c d 1 = some (.int .u8 x.len) := by rw [hk2.cell0 d _ (by omega)]; simp (disch := omega) only [go_sem, ↓reduceIte ]
      simp (disch := omega) only [go_sem, ↓reduceIte , cL2, cd0, cd1, hov]
      obtain ⟨own, hsl2, _⟩ := hA2.sl
      refine (ehas_c hsl2 hL x.addr x.len).mono fun r H3 nx3 _ ⟨hr, hx3, hk3⟩ => ?_
      subst hr
      have hA3 := hA2.still hk3 hx3
      have hS3 := hS2.still hk3 hx3
      have cE3 := hA3.cE
      have cd30 : H3.c d 0 = some (.int .u32 x.addr) := by rw [hk3.cell0 d _ (by omega)]; exact cd0
      have cd31 : H3.c d 1 = some (.int .u8 x.len) := by rw [hk3.cell0 d _ (by omega)]; exact cd1
      cases hh : L.any (fun r => samePx r x.addr x.len) with
      | true =>
        simp (disch := omega) only [go_sem, ↓reduceIte , hcast]
        exact fin0 (by unfold blkE; rw [hw]; simp only [hh, if_true]) _ _ hA3 hS3
      | false =>
        simp (disch := omega) only [go_sem, ↓reduceIte , cE3, cd30, cd31]
        refine (eask_c hA3.st.a ⟨4, 8, 0, x.addr, x.len, nextI s, 0⟩ (by rw [eas]; exact hal2)).mono fun r H4 nx4 _ ⟨hr, y', col', hbl', hv5', ho5', hs4⟩ => ?_
        subst hr
        simp (disch := omega) only [go_sem, ↓reduceIte , hcast]
        refine fin _ _ y' col' ?_ (hS3.trans (AddS.ofEng hs4))
        have hb : blkE e.es L ei.asks x = askE ei.asks ⟨4, 8, 0, x.addr, x.len, nextI s, 0⟩ := by unfold blkE; rw [hw]; simp only [hh, Bool.false_eq_true, if_false, hz]
        rw [hb]
        exact hA3.eng hs4 hv5' ho5' rfl
  · have ei : i = bl.length := by omega
    subst ei
    rw [List.take_length] at hA
    simp (disch := omega) only [go_sem, ↓reduceIte ]
    exact hK _ _ _ _ hA
end Go.Proofs.YtngnbafididkcaaGreat
end
section
namespace Go.Proofs.YtngnbafididkcaaGreat
open Go.RowKit
set_option linter.unusedSimpArgs false

noncomputable def selT10 : Code := codeAt [.T, .T, .T, .T, .T, .T, .T, .T, .T, .T] ((Tryz.f17.body).getD .skip)
noncomputable def selT8 : Code := codeAt [.T, .T, .T, .T, .T, .T, .T, .T] ((Tryz.f17.body).getD .skip)
/-- What is known of an engine ahead of Select. -/
structure EngPre (e : Eng) : Prop where
  ow : ∀ a ∈ e.own, pxRightC a.1.1 a.1.2 = true ∧ 0 ≤ a.1.2
  ok : ∀ t ∈ e.ts, TdOk t ∧ 0 ≤ t.metric ∧ t.metric ≤ 65535
  px : ∀ t ∈ e.ts, pxRightC t.addr t.len = true
  sz : e.es.length + e.own.length + e.ts.length ≤ 200
  lk : ∀ a ∈ e.lk, 0 ≤ andI .u16 a.2.came 7 ∧ andI .u16 a.2.came 7 < 8
  lc : ∀ a ∈ e.lk, 0 ≤ a.2.cost ∧ a.2.cost ≤ 65535
  al : e.asks.length ≤ 16
  sl : e.sel.length ≤ 1000
  ll : e.lost.length ≤ 1000000

set_option maxHeartbeats 4000000 in
set_option maxRecDepth 20000 in
theorem sel_tail {lo nx0 : Nat} {H0 : AH} {p : Nat} {col0 : Nat → Nat} {bE bL : Nat} {e : Eng} {L : List Rt} {H : AH} {nx : Nat} {y : ELay} {col : Nat → Nat} {v : Value} {R : Value → AH → Nat → Prop} {rest : Env}
    (h : TlI lo nx0 H0 p col0 bE bL e L H nx y col v) (hok : ∀ t ∈ e.ts, TdOk t) (htl : e.ts.length ≤ 1000) (hL : L.length ≤ 1000000) (hel : e.es.length ≤ 1000000) (hal : e.asks.length ≤ 16) (hlo0 : lo ≤ nx0)
    (hR : ∀ r H' nx' y' col' own2 tb, tb.Perm e.ts → tb.Pairwise (fun x y => ¬ aheadT y x) → EngS lo nx0 H0 p col0 { e with asks := (blR (goodP (feasE e.es) tb) tb).foldl (blkE e.es L) e.asks } H' nx' y' col' → SlA nx' H' 5 r L.length (rtCells L) own2 → (own2 = 0 ∨ nx0 < own2) → (∀ b, b + 1 = own2 → col' b = 0) → R r H' nx') :
    awp Tryz.prog lo L17 selT10 (retQ Tryz.prog Tryz.f17 R) ((1, .pointer (some ⟨bE, 0, none⟩)) :: (3, .pointer (some ⟨bL, 0, none⟩)) :: rest) H nx := by
  have hcode : selT10 = .seq (.seq (codeAt [.T, .T, .T, .T, .T, .T, .T, .T, .T, .T, .H, .H] ((Tryz.f17.body).getD .skip)) (.block 8 selL5)) (codeAt [.T, .T, .T, .T, .T, .T, .T, .T, .T, .T, .T] ((Tryz.f17.body).getD .skip)) := rfl
  simp only [Tryz.f17, Option.getD_some, codeAt_H, codeAt_T, codeAt_I, codeAt_L, codeAt_C, codeAt_P, codeAt_nil] at hcode
  rw [hcode]
  clear hcode
  have cE := h.cE
  have hlo : lo ≤ nx := by have := h.st.le; omega
  have c2 := h.st.a.c.c2
  have c3 := h.st.a.c.c3
  obtain ⟨ts, hp, hRo⟩ := h.st.a.rt
  simp (disch := omega) only [go_sem, ↓reduceIte ]
  refine awp_draw ord17x31 (by kernel_rfl) ?_
  simp (disch := omega) only [go_sem, ↓reduceIte , ord17x31, cE, c2, c3]
  refine (rblocked_c (feas := feasE e.es) hRo (fun t ht => hok t (hp.mem_iff.1 ht)) (by rw [hp.length_eq]; omega) (fun H7 nx7 hx7 hk7 t _ => sfeas_c (h.st.a.so.kp hk7 hx7 (by simp) (by simp)) hel _ _ _ _)).mono fun r H1 nx1 _ ⟨hx1, hk1, ow, tb, hpb, hsb, hs1, ho1⟩ => ?_
  have hgood : goodP (feasE e.es) ts = goodP (feasE e.es) tb := funext fun a => funext fun n => (goodP_perm hpb a n).symm
  rw [hgood] at hs1
  have h1 := h.still hk1 hx1
  have hbl := blR_len (goodP (feasE e.es) tb) tb tb.length
  rw [List.take_length, hpb.length_eq, hp.length_eq] at hbl
  generalize hbg : blR (goodP (feasE e.es) tb) tb = bl at hs1 hbl
  obtain ⟨ra, rc, rfl⟩ := hs1.form
  simp (disch := omega) only [go_sem, ↓reduceIte , ord17x31]
  refine ⟨dkeep_kp hk1, ?_⟩
  have hlL := h.lL
  refine sel_blk (bl := bl) h1 hs1 (fun b hb => ⟨Classical.byContradiction fun hc => by have := h.st.a.k.rng b hc; omega, by omega⟩) (by omega) hL hel hal hlo0 (fun H2 nx2 y2 col2 h2 => ?_)
  have cL2 := h2.cL
  obtain ⟨own, hsl, _⟩ := h2.sl
  have hone := hsl.one
  have hlL2 := h2.lL
  have hle2 := h2.st.le
  simp (disch := omega) only [go_sem, ↓reduceIte , cL2, hone]
  refine (cloneRt_c hsl hL).mono fun r H3 nx3 _ ⟨hx3, hk3, own3, hs3, ho3⟩ => ?_
  have hone3 := hs3.one
  simp (disch := omega) only [go_sem, ↓reduceIte , hone3]
  have h3 := h2.still hk3 hx3
  exact hR r H3 nx3 y2 col2 own3 tb (hpb.trans hp) hsb (by rw [hbg]; exact h3.st) hs3 (by omega) (fun b hb => Classical.byContradiction fun hc => by have := h2.st.a.k.rng b hc; omega)

set_option maxHeartbeats 4000000 in
set_option maxRecDepth 20000 in
/-- From the sort on. -/
theorem sel_from8 {lo nx0 : Nat} {H0 : AH} {p : Nat} {col0 : Nat → Nat} {bE bL : Nat} {e : Eng} {L0 : List Rt} {H : AH} {nx : Nat} {y : ELay} {col : Nat → Nat} {v : Value} {own : Nat} {R : Value → AH → Nat → Prop} {rest : Env}
    (h : AddI lo nx0 H0 p col0 bE bL e L0 H nx y col v own) (hok : ∀ t ∈ e.ts, TdOk t) (htl : e.ts.length ≤ 1000) (hL : L0.length ≤ 1000000) (hel : e.es.length ≤ 1000000) (hal : e.asks.length ≤ 16) (hsl : e.sel.length ≤ 1000) (hll : e.lost.length ≤ 1000000) (hlo0 : lo ≤ nx0)
    (hR : ∀ r H' nx' y' col' own2 L tb d l2, L.Perm L0 → L.Pairwise (fun x y => ¬ ltR y x) → ((L = e.sel ∧ d = e.due ∧ l2 = e.lost) ∨ (L ≠ e.sel ∧ d = true ∧ l2 = e.lost ++ lostE L e.sel)) → tb.Perm e.ts → tb.Pairwise (fun x y => ¬ aheadT y x) → EngS lo nx0 H0 p col0 { e with sel := L, due := d, lost := l2, asks := (blR (goodP (feasE e.es) tb) tb).foldl (blkE e.es L) e.asks } H' nx' y' col' → SlA nx' H' 5 r L.length (rtCells L) own2 → (own2 = 0 ∨ nx0 < own2) → (∀ b, b + 1 = own2 → col' b = 0) → R r H' nx') :
    awp Tryz.prog lo L17 selT8 (retQ Tryz.prog Tryz.f17 R) ((1, .pointer (some ⟨bE, 0, none⟩)) :: (3, .pointer (some ⟨bL, 0, none⟩)) :: rest) H nx := by
  have hcode : selT8 = .seq (codeAt [.T, .T, .T, .T, .T, .T, .T, .T, .H] ((Tryz.f17.body).getD .skip)) (.seq (.seq (codeAt [.T, .T, .T, .T, .T, .T, .T, .T, .T, .H, .H] ((Tryz.f17.body).getD .skip)) (.cond (.tmp 86) (.seq (codeAt [.T, .T, .T, .T, .T, .T, .T, .T, .T, .H, .T, .C, .H] ((Tryz.f17.body).getD .skip)) (.seq (.seq (codeAt [.T, .T, .T, .T, .T, .T, .T, .T, .T, .H, .T, .C, .T, .H, .H] ((Tryz.f17.body).getD .skip)) (.block 6 selL4)) (codeAt [.T, .T, .T, .T, .T, .T, .T, .T, .T, .H, .T, .C, .T, .T] ((Tryz.f17.body).getD .skip)))) .skip)) selT10) := rfl
  simp only [Tryz.f17, Option.getD_some, codeAt_H, codeAt_T, codeAt_I, codeAt_L, codeAt_C, codeAt_P, codeAt_nil] at hcode
  rw [hcode]
  clear hcode
  have cE := h.cE
  have cL := h.cL
  have hlo : lo ≤ nx := by have := h.st.le; omega
  have hone := h.sl.one
  have how := h.ow
  simp (disch := omega) only [go_sem, ↓reduceIte , cL, hone]
  refine (sortRt_c h.sl (by omega) hL).mono fun r H1 nx1 _ ⟨hr, hx1, L, hp, hsd, hk1, hs1⟩ => ?_
  subst hr; subst hx1
  have h1 := h.push (L' := L) (v' := v) (own' := own) (hk1.mono (Nat.le_refl _) (fun _ _ h => .inr h)) (Nat.le_refl _) (by
    have := h.oL
    rw [hk1.cell bL 0 h.lL (by omega)]; exact cL) hs1 (.inl rfl)
  have cE1 := h1.cE
  have cL1 := h1.cL
  have c5 := h1.st.a.c.c5
  have hone5 := h1.st.a.s5.one
  have hpn := h1.st.a.k.lt h1.st.a.k.kp (by omega)
  simp (disch := omega) only [go_sem, ↓reduceIte ]
  refine awp_draw ord17x22 (by kernel_rfl) ?_
  simp (disch := omega) only [go_sem, ↓reduceIte , ord17x22, cE1, cL1, c5, hone, hone5]
  refine (eqRt_c h1.sl h1.st.a.s5 (by rw [hp.length_eq]; exact hL) (by omega)).mono fun r H2 nx2 _ ⟨b, hr, hb, hx2, hH2⟩ => ?_
  subst hr; subst hH2
  have h2 := h1.still (Kp.refl _ _ _) hx2
  cases b with
  | true =>
    have hLe : L = e.sel := hb.1 rfl
    subst hLe
    simp (disch := omega) only [go_sem, ↓reduceIte , ord17x22]
    exact sel_tail h2.tl hok htl (by omega) hel hal hlo0 (fun r H' nx' y' col' own2 tb h1 h2 h3 h4 h5 h6 => hR r H' nx' y' col' own2 e.sel tb e.due e.lost hp hsd (.inl ⟨rfl, rfl, rfl⟩) h1 h2 h3 h4 h5 h6)
  | false =>
    have hne : L ≠ e.sel := fun hc => by have := hb.2 hc; cases this
    have c9 : H2.c p (7 + 1 + 1) = some (.bool e.due) := h2.st.a.c.c9
    have hlop := hpn.1
    obtain ⟨sa, sc, hform⟩ := h1.st.a.s5.form
    rw [hform] at c5 hone5 ⊢
    simp (disch := omega) only [go_sem, ↓reduceIte , ord17x22, cE1, c9, c5, hone5]
    have k3 : Kp (fun b => b = p) nx2 H2 (H2.put p (7 + 1 + 1) (.bool true)) := (by repeat first | exact Kp.refl _ _ _ | refine Kp.dropT ?_ (.inl (by omega)) | refine Kp.put ?_ (.inl (by omega)) | refine Kp.new ?_ (by omega) | refine Kp.put ?_ (.inr (by omega)) | refine Kp.newO ?_ (by omega) | refine Kp.setO ?_ (.inl (by omega)) | refine Kp.setO ?_ (.inr (by omega)) | refine Kp.trans0 ?_ (by assumption) (by omega) | refine Kp.transS ?_ (by assumption) (by omega) (fun b hb hT => by first | omega | (dsimp only at hT ⊢; omega) | (simp only at hT ⊢; omega))) 
    have h3 := h2.eng (e' := { e with due := true }) ⟨Nat.le_refl _, k3.mono (Nat.le_refl _) (fun b _ hb => by rw [hb, h2.st.a.k.kp]; omega), h2.st.a.scal k3 (h2.st.a.c.put9 true) rfl rfl rfl rfl rfl rfl rfl, fun b hb => .inl hb⟩
    have hlE1 := h1.lE
    have hlL1 := h1.lL
    refine sel_lost (v5 := .slice sa e.sel.length sc) (e := { e with due := true }) hform h3 (by rw [hp.length_eq]; exact hL) (by show e.sel.length ≤ 1000000; omega) hll hlo0 (fun H4 nx4 y4 col4 h4 => ?_)
    have cE4 := h4.cE
    have cL4 := h4.cL
    have c54 := h4.st.a.c.c5
    have hpn4 := h4.st.a.k.lt h4.st.a.k.kp (by omega)
    have hlop4 := hpn4.1
    simp (disch := omega) only [go_sem, ↓reduceIte , cE4, cL4, hone, c54]
    have k5 : Kp (fun b => b = p) nx4 H4 (H4.put p 5 v) := (by repeat first | exact Kp.refl _ _ _ | refine Kp.dropT ?_ (.inl (by omega)) | refine Kp.put ?_ (.inl (by omega)) | refine Kp.new ?_ (by omega) | refine Kp.put ?_ (.inr (by omega)) | refine Kp.newO ?_ (by omega) | refine Kp.setO ?_ (.inl (by omega)) | refine Kp.setO ?_ (.inr (by omega)) | refine Kp.trans0 ?_ (by assumption) (by omega) | refine Kp.transS ?_ (by assumption) (by omega) (fun b hb hT => by first | omega | (dsimp only at hT ⊢; omega) | (simp only at hT ⊢; omega))) 
    have how4 := h4.ow
    have hpo : p + 1 ≠ own := fun hc => by
      have := h4.ko p hc
      have := h4.st.a.k.kp
      omega
    have hfin := h4.st.a.setSel (l := L) (v := v) (own' := own) (Nat.le_refl nx4) (k5.mono (Nat.le_refl _) (fun _ _ h => .inl h)) (h4.st.a.c.put5 own) (h4.sl.put hpo) (by omega) (fun b hb => .inl (h4.ko b hb))
    have h5 : TlI lo nx0 H0 p col0 bE bL { e with due := true, lost := e.lost ++ lostE L e.sel, sel := L } L (H4.put p 5 v) nx4 { y4 with v5 := v, o5 := own } (recol col4 own 6) v := by
      have hoE := h4.oE
      have hoL := h4.oL
      refine ⟨h4.st.step (k5.mono (Nat.le_refl _) (fun b _ h => .inl (by rw [h, h4.st.a.k.kp]; omega))) (Nat.le_refl _) hfin (recol_fp (fun b hb => .inr (by omega))), h4.gE, h4.lE, ?_, ?_, h4.gL, h4.lL, ?_, ?_, own, hfin.s5, .inr ⟨rfl, rfl, rfl⟩⟩
      · rw [recol_ne (by omega)]; exact h4.kE
      · have hpE : bE ≠ p := fun hc => by
          have := h4.kE
          rw [hc, h4.st.a.k.kp] at this
          omega
        rw [k5.cell bE 0 h4.lE hpE]; exact cE4
      · rw [recol_ne (by omega)]; exact h4.kL
      · have hpL : bL ≠ p := fun hc => by
          have := h4.kL
          rw [hc, h4.st.a.k.kp] at this
          omega
        rw [k5.cell bL 0 h4.lL hpL]; exact cL4
    exact sel_tail h5 hok htl (by rw [hp.length_eq]; exact hL) hel hal hlo0 (fun r H' nx' y' col' own2 tb h1 h2 h3 h4 h5 h6 => hR r H' nx' y' col' own2 L tb true (e.lost ++ lostE L e.sel) hp hsd (.inr ⟨hne, rfl, rfl⟩) h1 h2 h3 h4 h5 h6)
end Go.Proofs.YtngnbafididkcaaGreat
end
section
namespace Go.Proofs.YtngnbafididkcaaGreat
open Go.RowKit
set_option linter.unusedSimpArgs false

noncomputable def selT7 : Code := codeAt [.T, .T, .T, .T, .T, .T, .T] ((Tryz.f17.body).getD .skip)
noncomputable def selT5 : Code := codeAt [.T, .T, .T, .T, .T] ((Tryz.f17.body).getD .skip)
/-- What Select leaves. -/
structure SelP (lo nx0 : Nat) (H0 : AH) (p : Nat) (col0 : Nat → Nat) (e : Eng) (r : Value) (H' : AH) (nx' : Nat) (e' : Eng) (L : List Rt) (ks : List (Int × Int)) (es1 es2 : List Ent) (ts' tb : List Tld) (d : Bool) (l2 : List (Int × Int)) (y' : ELay) (col' : Nat → Nat) (own : Nat) : Prop where
  se : SelE e e' L ks es1 es2 ts' tb d l2
  st : EngS lo nx0 H0 p col0 e' H' nx' y' col'
  sl : SlA nx' H' 5 r L.length (rtCells L) own
  ow : own = 0 ∨ nx0 < own
  ko : ∀ b, b + 1 = own → col' b = 0
theorem selPut_mem {l : List Rt} {x y : Rt} (h : y ∈ selPut l x) : y ∈ l ∨ y = x := by
  unfold selPut at h
  split at h
  · simpa using h
  · split at h
    · split at h
      · exact List.mem_or_eq_of_mem_set h
      · exact .inl h
    · simpa using h
theorem selPuts_mem : ∀ {xs l : List Rt} {y : Rt}, y ∈ xs.foldl selPut l → y ∈ l ∨ y ∈ xs
  | [], _, _, h => .inl h
  | x :: xs, l, y, h => by
    rcases selPuts_mem (xs := xs) h with h | h
    · rcases selPut_mem h with h | h
      · exact .inl h
      · exact .inr (by rw [h]; exact List.mem_cons_self)
    · exact .inr (List.mem_cons_of_mem _ h)
theorem selR_mem {costs : List Int} {feas : Tld → Bool} {ts : List Tld} {x : Rt} (h : x ∈ selR costs feas ts) : ∃ t ∈ ts, ChoR costs feas t x := by
  unfold selR at h
  rw [selR_fold] at h
  rcases selPuts_mem h with h | h
  · cases h
  · rw [List.mem_filterMap] at h
    obtain ⟨t, ht, h⟩ := h
    exact ⟨t, ht, rtOf_cho h⟩
set_option maxHeartbeats 4000000 in
set_option maxRecDepth 20000 in
/-- From the routes on. -/
theorem sel_from7 {lo nx0 : Nat} {H0 : AH} {p : Nat} {col0 : Nat → Nat} {bE bL : Nat} {e0 e : Eng} {L : List Rt} {H : AH} {nx : Nat} {y : ELay} {col : Nat → Nat} {v : Value} {own : Nat} {cb : Nat} {R : Value → AH → Nat → Prop} {rest : Env}
    (hpre : EngPre e0) (hlo0 : lo ≤ nx0) {ks : List (Int × Int)} {es1 : List Ent} (he : e = { e0 with es := es1 }) (hL : L = ownL e0 ks) (hkp : ks.Perm (e0.own.map (·.1))) (hkso : ks.Pairwise (fun x y => ¬ ltX y x)) (hl1 : LowL e0.es (ownL e0 ks) es1)
    (h : AddI lo nx0 H0 p col0 bE bL e L H nx y col v own) (hs : SlA nx H 1 (.slice (some ⟨cb, 0, none⟩) 16 16) 16 ((costsE e).flatMap c16) (cb + 1))
    (hR : ∀ r H' nx' e' L es2 ts' tb d l2 y' col' own', SelP lo nx0 H0 p col0 e0 r H' nx' e' L ks es1 es2 ts' tb d l2 y' col' own' → R r H' nx') :
    awp Tryz.prog lo L17 selT7 (retQ Tryz.prog Tryz.f17 R) ((1, .pointer (some ⟨bE, 0, none⟩)) :: (3, .pointer (some ⟨bL, 0, none⟩)) :: (4, addV bE bL) :: (7, .slice (some ⟨cb, 0, none⟩) 16 16) :: rest) H nx := by
  have hcode : selT7 = .seq (.seq (codeAt [.T, .T, .T, .T, .T, .T, .T, .H, .H] ((Tryz.f17.body).getD .skip)) (.block 4 selL3)) selT8 := rfl
  simp only [Tryz.f17, Option.getD_some, codeAt_H, codeAt_T, codeAt_I, codeAt_L, codeAt_C, codeAt_P, codeAt_nil] at hcode
  rw [hcode]
  clear hcode
  have cE := h.cE
  have hlo : lo ≤ nx := by have := h.st.le; omega
  have c2 := h.st.a.c.c2
  have c3 := h.st.a.c.c3
  obtain ⟨ts, hp, hRo⟩ := h.st.a.rt
  have hce : costsE e = costsE e0 := by rw [he]; rfl
  have hll := hl1.len
  have hkl := hkp.length_eq
  rw [List.length_map] at hkl
  have hol : (ownL e0 ks).length = ks.length := by simp [ownL]
  have hsz := hpre.sz
  have hees : e.es = es1 := by rw [he]
  have hets : e.ts = e0.ts := by rw [he]
  have hcc : ∀ c ∈ costsE e, 0 ≤ c ∧ c ≤ 65535 := fun c hc => by
    rw [hce] at hc
    unfold costsE at hc
    obtain ⟨n, _, rfl⟩ := List.mem_map.1 hc
    unfold costN
    split
    · rename_i l hg
      have := hpre.lc _ (getA_mem hg)
      unfold costL
      split
      · omega
      · exact this
    · omega
  have hcl : (costsE e).length = 16 := by simp [costsE]
  simp (disch := omega) only [go_sem, ↓reduceIte ]
  refine awp_draw ord17x16 (by kernel_rfl) ?_
  simp (disch := omega) only [go_sem, ↓reduceIte , ord17x16, cE, c2, c3]
  refine (rselect_c (costs := costsE e) (feas := feasE es1) hRo (fun t ht => hpre.ok t (by rw [← hets]; exact hp.mem_iff.1 ht)) (by rw [hp.length_eq, hets]; omega) (by rw [hcl, ← c16_flat]; exact hs) hcc (fun H7 nx7 hx7 hk7 t _ => by
    have hso := h.st.a.so.kp hk7 hx7 (by simp) (by simp)
    rw [hees] at hso
    exact sfeas_c hso (by omega) _ _ _ _)).mono fun r H1 nx1 _ ⟨hx1, hk1, ow, ts', hpt, hst, hs1, ho1⟩ => ?_
  have h1 := h.still hk1 hx1
  have hRl := selR_len (costsE e) (feasE es1) ts' ts'.length
  rw [List.take_length, hpt.length_eq, hp.length_eq, hets] at hRl
  generalize hRR : selR (costsE e) (feasE es1) ts' = RR at hs1 hRl
  obtain ⟨ra, rc, rfl⟩ := hs1.form
  have hRpx : ∀ x ∈ RR, pxRightC x.addr x.len = true ∧ 0 ≤ x.len ∧ x.metric ≠ 65535 := fun x hx => by
    rw [← hRR] at hx
    obtain ⟨t, ht, ⟨c, _, _, hm, hme⟩, _, ha, hl, _, _⟩ := selR_mem hx
    have hte : t ∈ e0.ts := by rw [← hets]; exact hp.mem_iff.1 (hpt.mem_iff.1 ht)
    have := (hpre.ok t hte).1.l0
    rw [ha, hl]
    exact ⟨hpre.px t hte, by omega, by omega⟩
  have hLl : L.length ≤ 200 := by rw [hL, hol]; omega
  simp (disch := omega) only [go_sem, ↓reduceIte , ord17x16]
  refine ⟨dkeep_kp hk1, ?_⟩
  refine sel_rts (R := RR) h1 hs1 (fun b hb => ⟨Classical.byContradiction fun hc => by have := h.st.a.k.rng b hc; omega, ?_, ?_⟩) hRpx (by rw [hees]; omega) hLl hlo0 (fun H2 nx2 y2 col2 v2 own2 es2 hl2 h2 hS2 => ?_)
  · have := h.lL
    omega
  · have := h.sl.le
    omega
  refine sel_from8 h2 (fun t ht => (hpre.ok t (by rw [← hets]; exact ht)).1) (by show e.ts.length ≤ 1000; rw [hets]; omega) (by rw [List.length_append]; omega) (by show es2.length ≤ 1000000; have := hl2.len; rw [hees] at this; omega) (by show e.asks.length ≤ 16; rw [he]; exact hpre.al) (by show e.sel.length ≤ 1000; rw [he]; exact hpre.sl) (by show e.lost.length ≤ 1000000; rw [he]; exact hpre.ll) hlo0 (fun r H' nx' y' col' own3 L3 tb d l2 g1 g2 g3 g4 g5 g6 g7 g8 g9 => ?_)
  refine hR r H' nx' _ L3 es2 ts' tb d l2 y' col' own3 ⟨⟨hkp, hkso, hl1, (hpt.trans hp).trans (by rw [hets]), hst, ?_, ?_, g2, ?_, g4.trans (by show e.ts.Perm e0.ts; rw [hets]), g5, rfl⟩, ?_, g7, g8, g9⟩
  · rw [← hce, hRR, ← hees]; exact hl2
  · rw [← hce, hRR, ← hL]; exact g1
  · rw [he] at g3; exact g3
  · rw [he] at g6; exact g6
end Go.Proofs.YtngnbafididkcaaGreat
end
section
namespace Go.Proofs.YtngnbafididkcaaGreat
open Go.RowKit
set_option linter.unusedSimpArgs false

noncomputable def selT0 : Code := (Tryz.f17.body).getD .skip
theorem costI_zero (e : Eng) : (costI e 0).flatMap c16 = List.replicate 16 (.int .u16 0) := rfl
set_option maxHeartbeats 4000000 in
set_option maxRecDepth 20000 in
theorem sel_from5 {lo nx0 : Nat} {H0 : AH} {p : Nat} {col0 : Nat → Nat} {bE bL : Nat} {e0 e : Eng} {L : List Rt} {H : AH} {nx : Nat} {y : ELay} {col : Nat → Nat} {v : Value} {own : Nat} {R : Value → AH → Nat → Prop} {rest : Env}
    (hpre : EngPre e0) (hlo0 : lo ≤ nx0) {ks : List (Int × Int)} {es1 : List Ent} (he : e = { e0 with es := es1 }) (hL : L = ownL e0 ks) (hkp : ks.Perm (e0.own.map (·.1))) (hkso : ks.Pairwise (fun x y => ¬ ltX y x)) (hl1 : LowL e0.es (ownL e0 ks) es1)
    (h : AddI lo nx0 H0 p col0 bE bL e L H nx y col v own)
    (hR : ∀ r H' nx' e' L es2 ts' tb d l2 y' col' own', SelP lo nx0 H0 p col0 e0 r H' nx' e' L ks es1 es2 ts' tb d l2 y' col' own' → R r H' nx') :
    awp Tryz.prog lo L17 selT5 (retQ Tryz.prog Tryz.f17 R) ((1, .pointer (some ⟨bE, 0, none⟩)) :: (3, .pointer (some ⟨bL, 0, none⟩)) :: (4, addV bE bL) :: rest) H nx := by
  have hcode : selT5 = .seq (codeAt [.T, .T, .T, .T, .T, .H] ((Tryz.f17.body).getD .skip)) (.seq (.seq (codeAt [.T, .T, .T, .T, .T, .T, .H, .H] ((Tryz.f17.body).getD .skip)) (.block 2 selL2)) selT7) := rfl
  simp only [Tryz.f17, Option.getD_some, codeAt_H, codeAt_T, codeAt_I, codeAt_L, codeAt_C, codeAt_P, codeAt_nil] at hcode
  rw [hcode]
  clear hcode
  have hlo : lo ≤ nx := by have := h.st.le; omega
  have hle := h.st.le
  have hlE := h.lE
  have hlL := h.lL
  have hsle := h.sl.le
  simp (disch := omega) only [go_sem, ↓reduceIte ]
  refine mkSlQ_of (n := 16) (k := 1) (bytes := 2) (t := 111) (e := 22) (by kernel_rfl) zero16 (by kernel_rfl) (by omega) (by omega) (by omega) fun cb hcb => ?_
  have kc : Kp (fun _ => False) nx H (H.new cb ((Array.range (16 * 1)).map fun i => (Value.int .u16 0).cells[i % (Value.int .u16 0).cells.size]!) 22) := (by repeat first | exact Kp.refl _ _ _ | refine Kp.dropT ?_ (.inl (by omega)) | refine Kp.put ?_ (.inl (by omega)) | refine Kp.new ?_ (by omega) | refine Kp.put ?_ (.inr (by omega)) | refine Kp.newO ?_ (by omega) | refine Kp.setO ?_ (.inl (by omega)) | refine Kp.setO ?_ (.inr (by omega)) | refine Kp.trans0 ?_ (by assumption) (by omega) | refine Kp.transS ?_ (by assumption) (by omega) (fun b hb hT => by first | omega | (dsimp only at hT ⊢; omega) | (simp only at hT ⊢; omega))) 
  have h1 := h.still kc (show nx ≤ cb + 1 by omega)
  have hs1 : SlA (cb + 1) (H.new cb ((Array.range (16 * 1)).map fun i => (Value.int .u16 0).cells[i % (Value.int .u16 0).cells.size]!) 22) 1 (.slice (some ⟨cb, 0, none⟩) 16 16) 16 ((costI e 0).flatMap c16) (cb + 1) := by
    rw [costI_zero]
    exact SlA.ofNew (by simp) (by omega) (by simp [maxLen]) (by simp) (fun j hj => by
      have : j < 16 := by omega
      rw [List.getElem?_replicate, if_pos this]
      simp [this, cells_int, Nat.mod_one])
  generalize (H.new cb ((Array.range (16 * 1)).map fun i => (Value.int .u16 0).cells[i % (Value.int .u16 0).cells.size]!) 22) = H1 at kc h1 hs1 ⊢
  simp (disch := omega) only [go_sem, ↓reduceIte ]
  refine sel_costs (cb := cb) h1 hs1 ⟨by omega, Classical.byContradiction fun hc => by have := h.st.a.k.rng cb hc; omega, by omega, by omega, by omega⟩ (by rw [he]; exact hpre.lk) hlo0 (fun H2 h2 hs2 => ?_)
  exact sel_from7 hpre hlo0 he hL hkp hkso hl1 h2 hs2 hR

set_option maxHeartbeats 4000000 in
set_option maxRecDepth 20000 in
theorem eselect_c {lo nx : Nat} {H : AH} {p : Nat} {e : Eng} {y : ELay} {col : Nat → Nat} (hA : EngA lo nx H p e y col) (hpre : EngPre e) :
    ACalls Tryz.prog lo 17 #[.pointer (some ⟨p, 0, none⟩)] H nx (fun r H' nx' => ∃ e' L ks es1 es2 ts' tb d l2 y' col' own', SelP lo nx H p col e r H' nx' e' L ks es1 es2 ts' tb d l2 y' col' own') := by
  refine ACalls.withLo fun hlo => ?_
  refine acalls_of_awp (c := selT0) L17 Tryz.func17 rfl (by kernel_rfl) ?_
  generalize hR : (fun r H' nx' => ∃ e' L ks es1 es2 ts' tb d l2 y' col' own', SelP lo nx H p col e r H' nx' e' L ks es1 es2 ts' tb d l2 y' col' own') = R
  have hR2 : ∀ r H' nx' e' L ks es1 es2 ts' tb d l2 y' col' own', SelP lo nx H p col e r H' nx' e' L ks es1 es2 ts' tb d l2 y' col' own' → R r H' nx' := fun r H' nx' e' L ks es1 es2 ts' tb d l2 y' col' own' h => by
    rw [← hR]
    exact ⟨e', L, ks, es1, es2, ts', tb, d, l2, y', col', own', h⟩
  clear hR
  have hcode : selT0 = .seq (codeAt [.H] ((Tryz.f17.body).getD .skip)) (.seq (.seq (codeAt [.T, .H, .H] ((Tryz.f17.body).getD .skip)) (codeAt [.T, .H, .T] ((Tryz.f17.body).getD .skip))) (.seq (codeAt [.T, .T, .H] ((Tryz.f17.body).getD .skip)) (.seq (codeAt [.T, .T, .T, .H] ((Tryz.f17.body).getD .skip)) (.seq (.seq (codeAt [.T, .T, .T, .T, .H, .H] ((Tryz.f17.body).getD .skip)) (.block 0 selL1)) selT5)))) := rfl
  simp only [Tryz.f17, Option.getD_some, codeAt_H, codeAt_T, codeAt_I, codeAt_L, codeAt_C, codeAt_P, codeAt_nil] at hcode
  rw [hcode]
  clear hcode
  have hpn := hA.k.lt hA.k.kp (by omega)
  have c4 := hA.c.c4
  have hmn := hA.k.lt hA.k.ko (by omega)
  simp (disch := omega) only [go_sem, ↓reduceIte ]
  intro bE hE
  simp (disch := omega) only [go_sem, ↓reduceIte ]
  intro bL hL
  simp (disch := omega) only [go_sem, ↓reduceIte , c4]
  have k0 : Kp (fun _ => False) nx H ((H.new bE #[.pointer (some ⟨p, 0, none⟩)] 24).new bL #[.slice none 0 0] 37) := (by repeat first | exact Kp.refl _ _ _ | refine Kp.dropT ?_ (.inl (by omega)) | refine Kp.put ?_ (.inl (by omega)) | refine Kp.new ?_ (by omega) | refine Kp.put ?_ (.inr (by omega)) | refine Kp.newO ?_ (by omega) | refine Kp.setO ?_ (.inl (by omega)) | refine Kp.setO ?_ (.inr (by omega)) | refine Kp.trans0 ?_ (by assumption) (by omega) | refine Kp.transS ?_ (by assumption) (by omega) (fun b hb hT => by first | omega | (dsimp only at hT ⊢; omega) | (simp only at hT ⊢; omega))) 
  have col0 : ∀ b, nx ≤ b → col b = 0 := fun b hb => Classical.byContradiction fun hc => by have := hA.k.rng b hc; omega
  have h0 : AddI lo nx H p col bE bL e [] ((H.new bE #[.pointer (some ⟨p, 0, none⟩)] 24).new bL #[.slice none 0 0] 37) (bL + 1) y col (.slice none 0 0) 0 :=
    ⟨(EngS.refl hA).still k0 (by omega), hE, by omega, col0 bE hE, by simp (disch := omega) only [go_sem, ↓reduceIte ], by omega, by omega, col0 bL (by omega), by simp (disch := omega) only [go_sem, ↓reduceIte ], by omega, SlA.nil _ _ _, .inl rfl, by omega, by omega, fun b hb => by omega⟩
  obtain ⟨ob, hob, hu, clk, z, hz, hzl⟩ := hA.om
  have hzn : z.length = e.own.length := by rw [← hzl, List.length_map]
  have hzk : z.map (fun t => t.2.1) = e.own.map (·.1) := by rw [← hzl, List.map_map]; rfl
  have hsz := hpre.sz
  refine keysP_c.mono fun r H1 nx1 _ ⟨b, hb, hn1, hr, hcb, hk1⟩ => ?_
  subst hr; subst hn1
  have k1 : Kp (fun _ => False) nx H H1 := k0.trans (U := fun _ => False) hk1 (by omega) (fun _ _ h => h) (fun _ _ h => h)
  simp (disch := omega) only [go_sem, ↓reduceIte ]
  refine (sortedP_c (by omega) hz (by omega) hcb (by omega) (by rw [(k1 y.mo hmn.2 (by simp)).2.1]; exact hob) (by omega)).mono fun r H2 nx2 _ ⟨ow, ks, hkp, hks, hs2, ho2, hx2, hk2⟩ => ?_
  rw [hzk] at hkp
  have hkl := hkp.length_eq
  rw [List.length_map] at hkl
  have h2 := (h0.still hk1 (by omega)).still hk2 hx2
  obtain ⟨ra, rc, rfl⟩ := hs2.form
  simp (disch := omega) only [go_sem, ↓reduceIte ]
  refine sel_own (ks := ks) h2 hs2 (fun c hc => ⟨col0 c (by omega), by omega, by omega⟩) (fun k hk => ?_) (by omega) hlo (fun H3 nx3 y3 col3 v3 own3 es1 hl1 h3 hS3 => ?_)
  · obtain ⟨a, ha, rfl⟩ := List.mem_map.1 (hkp.mem_iff.1 hk)
    exact hpre.ow a ha
  · exact sel_from5 hpre hlo rfl rfl hkp hks hl1 h3 (fun r H' nx' e' L es2 ts' tb d l2 y' col' own' h => hR2 r H' nx' e' L ks es1 es2 ts' tb d l2 y' col' own' h)
end Go.Proofs.YtngnbafididkcaaGreat
end
