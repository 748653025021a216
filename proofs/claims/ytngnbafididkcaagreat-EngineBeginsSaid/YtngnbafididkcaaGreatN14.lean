/- Engine: Select's add: in our own logic. Engine: Select: its own ways: in our own logic. Engine: Select: the costs; what the routes choose: in our own logic. Engine: Select: what the routes choose: in our own logic. -/
import Derived.Test.YtngnbafididkcaaGreatN9
import Derived.Test.YtngnbafididkcaaGreatL20
section
namespace Go.Proofs.YtngnbafididkcaaGreat
open Go.RowKit
set_option linter.unusedSimpArgs false

/-- Within Select: the engine, the boxes of it and of the list, what is in the list. -/
structure AddI (lo nx0 : Nat) (H0 : AH) (p : Nat) (col0 : Nat → Nat) (bE bL : Nat) (e : Eng) (L : List Rt) (H : AH) (nx : Nat) (y : ELay) (col : Nat → Nat) (v : Value) (own : Nat) : Prop where
  st : EngS lo nx0 H0 p col0 e H nx y col
  gE : nx0 ≤ bE
  lE : bE < nx
  kE : col bE = 0
  cE : H.c bE 0 = some (.pointer (some ⟨p, 0, none⟩))
  gL : nx0 ≤ bL
  lL : bL < nx
  kL : col bL = 0
  cL : H.c bL 0 = some v
  ne : bE ≠ bL
  sl : SlA nx H 5 v L.length (rtCells L) own
  ow : own = 0 ∨ nx0 < own
  oE : own ≠ bE + 1
  oL : own ≠ bL + 1
  ko : ∀ b, b + 1 = own → col b = 0
section
variable {lo nx0 nx nx' : Nat} {H0 H H' : AH} {p : Nat} {col0 col col' : Nat → Nat} {bE bL : Nat} {e e' : Eng} {L L' : List Rt} {y y' : ELay} {v v' : Value} {own own' : Nat}
theorem AddI.eng (h : AddI lo nx0 H0 p col0 bE bL e L H nx y col v own) (s : EngS lo nx H p col e' H' nx' y' col') : AddI lo nx0 H0 p col0 bE bL e' L H' nx' y' col' v own := by
  have z : ∀ b, col b = 0 → b < nx → col' b = 0 := fun b h0 hb => by
    refine Classical.byContradiction fun hc => ?_
    rcases s.fp b hc with h1 | h1
    · exact h1 h0
    · omega
  have hle := h.sl.le
  refine ⟨h.st.trans s, h.gE, by have := h.lE; have := s.le; omega, z _ h.kE h.lE, ?_, h.gL, by have := h.lL; have := s.le; omega, z _ h.kL h.lL, ?_, h.ne, h.sl.kp s.kp s.le (fun b hb => by rw [h.ko b hb]; simp), h.ow, h.oE, h.oL, fun b hb => z _ (h.ko b hb) (by omega)⟩
  · rw [s.kp.cell bE 0 h.lE (by rw [h.kE]; simp)]; exact h.cE
  · rw [s.kp.cell bL 0 h.lL (by rw [h.kL]; simp)]; exact h.cL
theorem AddI.still (h : AddI lo nx0 H0 p col0 bE bL e L H nx y col v own) (hk : Kp (fun _ => False) nx H H') (hn : nx ≤ nx') : AddI lo nx0 H0 p col0 bE bL e L H' nx' y col v own :=
  h.eng ((EngS.refl h.st.a).still hk hn)
/-- The list changes. -/
theorem AddI.push (h : AddI lo nx0 H0 p col0 bE bL e L H nx y col v own) (hk : Kp (fun b => b = bL ∨ b + 1 = own) nx H H') (hn : nx ≤ nx') (hc : H'.c bL 0 = some v') (hs : SlA nx' H' 5 v' L'.length (rtCells L') own') (ho : own' = own ∨ nx < own') : AddI lo nx0 H0 p col0 bE bL e L' H' nx' y col v' own' := by
  have hle := h.st.le
  have hL := h.gL
  have hlE := h.lE
  have hlL := h.lL
  have how := h.ow
  have hoE := h.oE
  have hoL := h.oL
  have hne := h.ne
  have hz : ∀ b, (b = bL ∨ b + 1 = own) → col b = 0 := fun b hb => by
    rcases hb with hb | hb
    · rw [hb]; exact h.kL
    · exact h.ko b hb
  refine ⟨h.st.step (hk.mono (Nat.le_refl _) (fun b _ hb => .inr (by omega))) hn (h.st.a.kp' (nx' := nx') hk hn (fun b hb hs => hb (hz b hs))) (fun b hb => .inl hb), h.gE, by omega, h.kE, ?_, h.gL, by omega, h.kL, hc, h.ne, hs, by omega, by omega, by omega, fun b hb => ?_⟩
  · rw [hk.cell bE 0 h.lE (by omega)]; exact h.cE
  · rcases ho with ho | ho
    · exact h.ko b (by omega)
    · refine Classical.byContradiction fun hc => ?_
      have := h.st.a.k.rng b hc
      omega
end
/-- What one more leaves. -/
structure AddS (nx : Nat) (H : AH) (col : Nat → Nat) (bL own : Nat) (H' : AH) (nx' : Nat) (col' : Nat → Nat) (own' : Nat) : Prop where
  le : nx ≤ nx'
  kp : Kp (fun b => col b ≠ 0 ∨ b = bL ∨ b + 1 = own) nx H H'
  fp : ∀ b, col' b ≠ 0 → col b ≠ 0 ∨ nx ≤ b
  oo : own' = own ∨ nx < own'
theorem AddS.trans {nx nx1 nx2 : Nat} {H H1 H2 : AH} {col c1 c2 : Nat → Nat} {bL o o1 o2 : Nat} (s : AddS nx H col bL o H1 nx1 c1 o1) (t : AddS nx1 H1 c1 bL o1 H2 nx2 c2 o2) : AddS nx H col bL o H2 nx2 c2 o2 := by
  have sl := s.le
  have tl := t.le
  have so := s.oo
  have tor := t.oo
  refine ⟨by omega, s.kp.trans (U := fun b => col b ≠ 0 ∨ b = bL ∨ b + 1 = o) t.kp sl (fun _ _ h => h) (fun b hb h => ?_), fun b hb => ?_, by omega⟩
  · rcases h with h | h | h
    · rcases s.fp b h with h | h
      · exact .inl h
      · omega
    · exact .inr (.inl h)
    · exact .inr (.inr (by omega))
  · rcases t.fp b hb with h | h
    · exact s.fp b h
    · exact .inr (by omega)
theorem AddS.refl {nx : Nat} {H : AH} {col : Nat → Nat} {bL o : Nat} : AddS nx H col bL o H nx col o := ⟨Nat.le_refl _, Kp.refl _ _ _, fun _ h => .inl h, .inl rfl⟩
theorem AddS.still {nx nx1 nx2 : Nat} {H H1 H2 : AH} {col c1 : Nat → Nat} {bL o o1 : Nat} (s : AddS nx H col bL o H1 nx1 c1 o1) (hk : Kp (fun _ => False) nx1 H1 H2) (hn : nx1 ≤ nx2) : AddS nx H col bL o H2 nx2 c1 o1 :=
  s.trans ⟨hn, hk.mono (Nat.le_refl _) (fun _ _ h => h.elim), fun _ h => .inl h, .inl rfl⟩

theorem AddS.ofEng {lo nx nx' : Nat} {H H' : AH} {p : Nat} {e' : Eng} {y' : ELay} {col col' : Nat → Nat} {bL own : Nat} (s : EngS lo nx H p col e' H' nx' y' col') : AddS nx H col bL own H' nx' col' own :=
  ⟨s.le, s.kp.mono (Nat.le_refl _) (fun _ _ h => .inl h), s.fp, .inl rfl⟩
set_option maxHeartbeats 1000000 in
set_option maxRecDepth 20000 in
theorem eselC_c {lo nx0 nx : Nat} {H0 H : AH} {p : Nat} {col0 col : Nat → Nat} {bE bL : Nat} {e : Eng} {L : List Rt} {y : ELay} {v : Value} {own : Nat} (h : AddI lo nx0 H0 p col0 bE bL e L H nx y col v own) (x : Rt) (hpx : pxRightC x.addr x.len = true) (n0 : 0 ≤ x.len) (hm : x.metric ≠ 65535) (hes : e.es.length ≤ 200) (hL : L.length ≤ 1000) (hlo0 : lo ≤ nx0) :
    ACalls Tryz.prog lo 44 #[.agg x.cells.toArray, .pointer (some ⟨bE, 0, none⟩), .pointer (some ⟨bL, 0, none⟩)] H nx (fun r H' nx' => r = .tuple #[] ∧ ∃ es' y' col' v' own', LowR e.es x.addr x.len x.seq x.metric es' ∧ AddI lo nx0 H0 p col0 bE bL { e with es := es' } (L ++ [x]) H' nx' y' col' v' own' ∧ AddS nx H col bL own H' nx' col' own') := by
  refine ACalls.withLo fun hlo => ?_
  refine acalls_of_awp L44 Tryz.func44 rfl (by kernel_rfl) ?_
  unfold Rt.cells
  simp (disch := omega) only [go_sem, ↓reduceIte ]
  intro d hd
  have kd : Kp (fun _ => False) nx H (H.new d #[.int .u32 x.addr, .int .u8 x.len, .int .i64 x.via, .int .u16 x.metric, .int .u16 x.seq] 40) := (by repeat first | exact Kp.refl _ _ _ | refine Kp.dropT ?_ (.inl (by omega)) | refine Kp.put ?_ (.inl (by omega)) | refine Kp.new ?_ (by omega) | refine Kp.put ?_ (.inr (by omega)) | refine Kp.newO ?_ (by omega) | refine Kp.setO ?_ (.inl (by omega)) | refine Kp.setO ?_ (.inr (by omega)) | refine Kp.trans0 ?_ (by assumption) (by omega) | refine Kp.transS ?_ (by assumption) (by omega) (fun b hb hT => by first | omega | (dsimp only at hT ⊢; omega) | (simp only at hT ⊢; omega))) 
  have hd1 := h.still kd (show nx ≤ d + 1 by omega)
  have cE := h.cE
  have c3 := h.st.a.c.c3
  have hlE := h.lE
  have hlL := h.lL
  have hpn := (h.st.a.k.lt h.st.a.k.kp (by omega)).2
  have hpsn := (h.st.a.k.lt h.st.a.k.ks (by omega)).2
  simp (disch := omega) only [go_sem, ↓reduceIte ]
  refine awp_draw ord44x1 (by kernel_rfl) ?_
  simp (disch := omega) only [go_sem, ↓reduceIte , ord44x1, cE, c3]
  refine (slower_c hd1.st.a.so hes x.addr x.len x.seq x.metric hpx n0 hm).mono fun r H2 nx2 _ ⟨hr, hx2, hk2, es', own2, hlow, hS, ho2⟩ => ?_
  subst hr
  have hdo : d + 1 ≠ y.os := fun hc => by
    have := h.st.a.k.ks2 d hc
    have := h.st.a.k.rng d (by omega)
    omega
  have hA2 := hd1.st.a.setEs hx2 hk2 hS ho2
  have hs2 : EngS lo (d + 1) (H.new d #[.int .u32 x.addr, .int .u8 x.len, .int .i64 x.via, .int .u16 x.metric, .int .u16 x.seq] 40) p col { e with es := es' } H2 nx2 { y with os := own2 } (recol col own2 3) := ⟨hx2, hk2.mono (Nat.le_refl _) (fun b _ hb => by
    rcases hb with hb | hb
    · rw [hb, h.st.a.k.ks]; omega
    · rw [h.st.a.k.ks2 b hb]; omega), hA2, recol_fp (fun b hb => by
    rcases ho2 with ho2 | ho2
    · exact .inl (by rw [h.st.a.k.ks2 b (by omega)]; omega)
    · exact .inr (by omega))⟩
  have h2 := hd1.eng hs2
  have cx : ∀ o, H2.c d o = (#[.int .u32 x.addr, .int .u8 x.len, .int .i64 x.via, .int .u16 x.metric, .int .u16 x.seq] : Array Value)[o]? := fun o => by
    rw [hk2.cell d o (by omega) (by omega), new_same]
  have cL := h2.cL
  have hov := h2.sl.one
  simp (disch := omega) only [go_sem, ↓reduceIte , ord44x1, cx, cL, hov]
  refine ⟨dkeep_last (by kernel_rfl), ?_⟩
  refine buildSQ_all (n := 1) [.agg #[.int .u32 x.addr, .int .u8 x.len, .int .i64 x.via, .int .u16 x.metric, .int .u16 x.seq]] sl37 zero40 (by omega) (by omega) rfl (by simp [cells_agg]) fun f hf => ?_
  have hlit := rt_lit H2 f 40 x
  have how := h2.ow
  have hs6 := h2.sl.new (vs := ([Value.agg #[.int .u32 x.addr, .int .u8 x.len, .int .i64 x.via, .int .u16 x.metric, .int .u16 x.seq]].flatMap fun v => v.cells.toList).toArray) (e := 40) hf
  simp (disch := omega) only [go_sem, ↓reduceIte ]
  refine appendQ_two (aw_append sl37 zero40 rfl by40 hs6 (hlit.src sl37 rtCells_one) (by simp only [maxLen]; omega) (by omega) (by omega) fun v7 H7 nx7 own7 hn7 hs7 ho7 hk7 _ => ?_)
  have hone7 := hs7.one
  have hnl := h.gL
  have hle := h.st.le
  have hoL := h.oL
  have hlL2 := h2.lL
  have cL7 : H7.c bL 0 = some v := by rw [hk7.cell bL 0 (by omega) (by omega)]; simp (disch := omega) only [go_sem, ↓reduceIte , cL]
  simp (disch := omega) only [go_sem, ↓reduceIte , hone7, cL7]
  have k27 : Kp (fun b => b = bL ∨ b + 1 = own) nx2 H2 (H7.put bL 0 v7) := (by repeat first | exact Kp.refl _ _ _ | refine Kp.dropT ?_ (.inl (by omega)) | refine Kp.put ?_ (.inl (by omega)) | refine Kp.new ?_ (by omega) | refine Kp.put ?_ (.inr (by omega)) | refine Kp.newO ?_ (by omega) | refine Kp.setO ?_ (.inl (by omega)) | refine Kp.setO ?_ (.inr (by omega)) | refine Kp.trans0 ?_ (by assumption) (by omega) | refine Kp.transS ?_ (by assumption) (by omega) (fun b hb hT => by first | omega | (dsimp only at hT ⊢; omega) | (simp only at hT ⊢; omega))) 
  have hfin := h2.push (L' := L ++ [x]) (v' := v7) (own' := own7) (nx' := nx7) k27 (by omega) (by simp (disch := omega) only [go_sem, ↓reduceIte ]) (by
    rw [List.length_append, rtCells_append]
    exact hs7.put (by omega)) (by omega)
  refine ⟨es', _, _, v7, own7, hlow, hfin, (AddS.refl.still kd (show nx ≤ d + 1 by omega)).trans ((AddS.ofEng hs2).trans ⟨by omega, k27.mono (Nat.le_refl _) (fun _ _ h => .inr h), fun _ h => .inl h, by omega⟩)⟩
end Go.Proofs.YtngnbafididkcaaGreat
end
section
namespace Go.Proofs.YtngnbafididkcaaGreat
open Go.RowKit
set_option linter.unusedSimpArgs false

def addV (bE bL : Nat) : Value := .func (.func 44) #[] #[.pointer (some ⟨bE, 0, none⟩), .pointer (some ⟨bL, 0, none⟩)]
theorem own_look1 {H : AH} {m : Nat} {ob : Obj} {l : List ((Int × Int) × Int)} (ho : H.o m = some ob) (hM : MapA pxK ev16 ob l) (a n : Int) : lookupV Tryz.prog H 91 (.map (some m)) (.agg #[.int .u32 a, .int .u8 n]) false = some (.int .u16 ((getA (a, n) l).getD 0)) := by
  have := lookupV_mapA (P := Tryz.prog) (H := H) (x := (a, n)) keyPx mapOwn zero16 ho hM trivial (fun _ _ => trivial)
  have e : ((getA (a, n) l).map ev16).getD (.int .u16 0) = .int .u16 ((getA (a, n) l).getD 0) := by
    cases getA (a, n) l <;> rfl
  rw [e] at this
  exact this
structure OwI (lo nx0 : Nat) (H0 : AH) (p : Nat) (col0 : Nat → Nat) (bE bL : Nat) (e : Eng) (ks : List (Int × Int)) (sv : Value) (H1 : AH) (nx1 : Nat) (c1 : Nat → Nat) (o1 : Nat) (m : Nat) (env : Env) (H : AH) (nx i : Nat) (y : ELay) (col : Nat → Nat) (v : Value) (own : Nat) (es1 : List Ent) : Prop where
  hm : m = ks.length - i
  hi : i ≤ ks.length
  henv : env = [(1, .pointer (some ⟨bE, 0, none⟩)), (3, .pointer (some ⟨bL, 0, none⟩)), (4, addV bE bL), (25, sv), (26, .int .i64 ks.length), (27, .int .i64 i)]
  a : AddI lo nx0 H0 p col0 bE bL { e with es := es1 } (ownL e (ks.take i)) H nx y col v own
  s : AddS nx1 H1 c1 bL o1 H nx col own
  l : LowL e.es (ownL e (ks.take i)) es1
noncomputable def selL1 : Code := codeAt [.T, .T, .T, .T, .H, .T, .I] ((Tryz.f17.body).getD .skip)
theorem px_load {nx : Nat} {H : AH} {g off c n own : Nat} {l : List (Int × Int)} (hs : SlA nx H 2 (.slice (some ⟨g, off, none⟩) n c) n (pxC l) own) {i : Nat} {x : Int × Int} (hi : l[i]? = some x) : loadN H g (off + i * 2) 2 = some (pxL x) := flat_load (f := pxL) (fun _ => rfl) hs hi

set_option maxHeartbeats 4000000 in
set_option maxRecDepth 20000 in
theorem sel_own {lo nx0 : Nat} {H0 : AH} {p : Nat} {col0 : Nat → Nat} {bE bL : Nat} {e : Eng} {H1 : AH} {nx1 : Nat} {y1 : ELay} {c1 : Nat → Nat} {v1 : Value} {o1 : Nat} {ks : List (Int × Int)} {sv : Value} {ow : Nat} {K0 : Env → AH → Nat → Prop} {Q : Exit → Env → AH → Nat → Prop}
    (h1 : AddI lo nx0 H0 p col0 bE bL e [] H1 nx1 y1 c1 v1 o1) (hs : SlA nx1 H1 2 sv ks.length (pxC ks) ow) (hso : ∀ b, b + 1 = ow → c1 b = 0 ∧ b ≠ bL ∧ b + 1 ≠ o1) (hpx : ∀ k ∈ ks, pxRightC k.1 k.2 = true ∧ 0 ≤ k.2) (hlen : e.es.length + ks.length ≤ 200) (hlo0 : lo ≤ nx0)
    (hK : ∀ H nx y col v own es1, LowL e.es (ownL e ks) es1 → AddI lo nx0 H0 p col0 bE bL { e with es := es1 } (ownL e ks) H nx y col v own → AddS nx1 H1 c1 bL o1 H nx col own → K0 [(1, .pointer (some ⟨bE, 0, none⟩)), (3, .pointer (some ⟨bL, 0, none⟩)), (4, addV bE bL), (25, sv), (26, .int .i64 ks.length), (27, .int .i64 ks.length), (28, .bool false)] H nx) :
    awp Tryz.prog lo L17 selL1 (blockQ 0 (thenQ K0 Q)) [(1, .pointer (some ⟨bE, 0, none⟩)), (3, .pointer (some ⟨bL, 0, none⟩)), (4, addV bE bL), (25, sv), (26, .int .i64 ks.length), (27, .int .i64 (0 : Nat))] H1 nx1 := by
  have hcode : selL1 = codeAt [.T, .T, .T, .T, .H, .T, .I] ((Tryz.f17.body).getD .skip) := rfl
  simp only [Tryz.f17, Option.getD_some, codeAt_H, codeAt_T, codeAt_I, codeAt_L, codeAt_C, codeAt_P, codeAt_nil] at hcode
  rw [hcode]
  clear hcode
  refine awp_loop (fun m env H nx => ∃ i y col v own es1, OwI lo nx0 H0 p col0 bE bL e ks sv H1 nx1 c1 o1 m env H nx i y col v own es1) ks.length ⟨0, y1, c1, v1, o1, e.es, ⟨by omega, by omega, rfl, h1, AddS.refl, rfl⟩⟩ (fun m env H nx ⟨i, y, col, v, own, es1, hI⟩ hn => ?_)
  obtain ⟨hm, hi, henv, hA, hS, hl⟩ := hI
  subst henv
  obtain ⟨aa, ac, rfl⟩ := hs.form
  unfold addV
  by_cases hlt : i < ks.length
  · obtain ⟨g, off, cap, hv, hgo⟩ := hs.open (by omega)
    simp only [Value.slice.injEq, true_and] at hv
    obtain ⟨rfl, rfl⟩ := hv
    have hsn := hs.kp hS.kp hS.le (fun b hb h => by have := hso b hb; omega)
    have hx0 : ks[i]? = some ks[i] := List.getElem?_eq_getElem hlt
    have hld := px_load hsn hx0
    have htk : ks.take (i + 1) = ks.take i ++ [ks[i]] := by rw [List.take_succ_eq_append_getElem hlt]
    have hpk := hpx ks[i] (List.getElem_mem hlt)
    have hll := hl.len
    rw [show (ownL e (ks.take i)).length = i by simp [ownL]; omega] at hll
    generalize ks[i] = k at hld hx0 htk hpk
    unfold pxL at hld
    have cE := hA.cE
    have hlo : lo ≤ nx := by have := hA.st.le; omega
    have hlE := hA.lE
    have c0 := hA.st.a.c.c0
    have c4 := hA.st.a.c.c4
    have hpn := (hA.st.a.k.lt hA.st.a.k.kp (by omega)).2
    have hmn := (hA.st.a.k.lt hA.st.a.k.ko (by omega)).2
    simp (disch := omega) only [go_sem, ↓reduceIte , hld]
    intro d hd
    have kd : Kp (fun _ => False) nx H ((H.new d #[.int .u32 0, .int .u8 0] 30).put d 0 (.int .u32 k.1) |>.put d 1 (.int .u8 k.2)) := (by repeat first | exact Kp.refl _ _ _ | refine Kp.dropT ?_ (.inl (by omega)) | refine Kp.put ?_ (.inl (by omega)) | refine Kp.new ?_ (by omega) | refine Kp.put ?_ (.inr (by omega)) | refine Kp.newO ?_ (by omega) | refine Kp.setO ?_ (.inl (by omega)) | refine Kp.setO ?_ (.inr (by omega)) | refine Kp.trans0 ?_ (by assumption) (by omega) | refine Kp.transS ?_ (by assumption) (by omega) (fun b hb hT => by first | omega | (dsimp only at hT ⊢; omega) | (simp only at hT ⊢; omega))) 
    have hA1 := hA.still kd (show nx ≤ d + 1 by omega)
    obtain ⟨ob, hob, hM⟩ := hA1.st.a.om
    have hlk := own_look1 hob hM k.1 k.2
    simp (disch := omega) only [go_sem, ↓reduceIte ]
    refine awp_draw ord17x8 (by kernel_rfl) ?_
    simp (disch := omega) only [go_sem, ↓reduceIte , ord17x8, cE, c0, c4, hlk]
    refine (eselC_c hA1 ⟨k.1, k.2, e.id, 0, (getA k e.own).getD 0⟩ hpk.1 hpk.2 (by show (0 : Int) ≠ 65535; omega) (by show es1.length ≤ 200; omega) (by simp [ownL]; omega) hlo0).mono fun r H2 nx2 _ ⟨hr, es', y', col', v', own', hlow, hA2, hS2⟩ => ?_
    subst hr
    have hcast : ((i : Int) + 1) = ((i + 1 : Nat) : Int) := by omega
    simp (disch := omega) only [go_sem, ↓reduceIte , ord17x8, hcast]
    refine ⟨dkeep_last (by kernel_rfl), ks.length - (i + 1), by omega, i + 1, y', col', v', own', es', ⟨rfl, by omega, rfl, ?_, (hS.still kd (by omega)).trans hS2, ?_⟩⟩
    · rw [htk]
      unfold ownL
      rw [List.map_append]
      exact hA2
    · rw [htk]
      unfold ownL
      rw [List.map_append]
      exact LowL.snoc (r := ⟨k.1, k.2, e.id, 0, (getA k e.own).getD 0⟩) hlow hl
  · have ei : i = ks.length := by omega
    subst ei
    rw [List.take_length] at hA hl
    simp (disch := omega) only [go_sem, ↓reduceIte ]
    exact hK _ _ _ _ _ _ _ hl hA hS
end Go.Proofs.YtngnbafididkcaaGreat
end
section
namespace Go.Proofs.YtngnbafididkcaaGreat
open Go.RowKit
set_option linter.unusedSimpArgs false

theorem AddI.aside {lo nx0 nx : Nat} {H0 H H' : AH} {p : Nat} {col0 col : Nat → Nat} {bE bL : Nat} {e : Eng} {L : List Rt} {y : ELay} {v : Value} {own : Nat} (h : AddI lo nx0 H0 p col0 bE bL e L H nx y col v own) {g : Nat} (hk : Kp (fun b => b = g) nx H H') (hg : nx0 ≤ g) (h0 : col g = 0) (hE : g ≠ bE) (hL : g ≠ bL) (ho : g + 1 ≠ own) : AddI lo nx0 H0 p col0 bE bL e L H' nx y col v own := by
  refine ⟨h.st.step (hk.mono (Nat.le_refl _) (fun b _ hb => .inr (by omega))) (Nat.le_refl _) (h.st.a.kp' (nx' := nx) hk (Nat.le_refl _) (fun b hb hs => hb (by rw [hs]; exact h0))) (fun b hb => .inl hb), h.gE, h.lE, h.kE, ?_, h.gL, h.lL, h.kL, ?_, h.ne, h.sl.kp hk (Nat.le_refl _) (fun b hb e => ho (by omega)), h.ow, h.oE, h.oL, h.ko⟩
  · rw [hk.cell bE 0 h.lE (by omega)]; exact h.cE
  · rw [hk.cell bL 0 h.lL (by omega)]; exact h.cL
def costI (e : Eng) (i : Nat) : List Int := (List.range 16).map fun n => if n < i then costN e n else 0
theorem costI_len (e : Eng) (i : Nat) : (costI e i).length = 16 := by simp [costI]
theorem costI_set (e : Eng) {i : Nat} (_hi : i < 16) : (costI e i).set i (costN e i) = costI e (i + 1) := by
  refine List.ext_getElem (by simp [costI]) fun j h1 h2 => ?_
  rw [List.getElem_set]
  simp only [costI, List.getElem_map, List.getElem_range]
  by_cases hj : i = j
  · subst hj
    rw [if_pos rfl, if_pos (by omega)]
  · rw [if_neg hj]
    by_cases h : j < i
    · rw [if_pos h, if_pos (by omega)]
    · rw [if_neg h, if_neg (by omega)]
theorem costI_end (e : Eng) : costI e 16 = costsE e := by
  unfold costI costsE
  refine List.map_congr_left fun n hn => ?_
  rw [List.mem_range] at hn
  exact if_pos hn
def c16 (c : Int) : List Value := [.int .u16 c]
theorem c16_flat (l : List Int) : l.flatMap c16 = l.map (Value.int .u16) := by
  induction l with
  | nil => rfl
  | cons x r ih => rw [List.flatMap_cons, List.map_cons, ih]; rfl
structure CoI (lo nx0 : Nat) (H0 : AH) (p : Nat) (col0 : Nat → Nat) (bE bL : Nat) (e : Eng) (L : List Rt) (cb : Nat) (y : ELay) (col : Nat → Nat) (v : Value) (own : Nat) (nx : Nat) (m : Nat) (env : Env) (H : AH) (nx' i : Nat) : Prop where
  hm : m = 16 - i
  hi : i ≤ 16
  henv : env = [(1, .pointer (some ⟨bE, 0, none⟩)), (3, .pointer (some ⟨bL, 0, none⟩)), (4, addV bE bL), (7, .slice (some ⟨cb, 0, none⟩) 16 16), (48, .int .i64 (16 : Nat)), (49, .int .i64 i)]
  hx : nx' = nx
  a : AddI lo nx0 H0 p col0 bE bL e L H nx y col v own
  s : SlA nx H 1 (.slice (some ⟨cb, 0, none⟩) 16 16) 16 ((costI e i).flatMap c16) (cb + 1)
noncomputable def selL2 : Code := codeAt [.T, .T, .T, .T, .T, .T, .H, .T, .I] ((Tryz.f17.body).getD .skip)
set_option maxHeartbeats 1000000 in
set_option maxRecDepth 20000 in
theorem sel_costs {lo nx0 : Nat} {H0 : AH} {p : Nat} {col0 : Nat → Nat} {bE bL : Nat} {e : Eng} {L : List Rt} {H1 : AH} {nx : Nat} {y : ELay} {col : Nat → Nat} {v : Value} {own cb : Nat} {K0 : Env → AH → Nat → Prop} {Q : Exit → Env → AH → Nat → Prop}
    (h1 : AddI lo nx0 H0 p col0 bE bL e L H1 nx y col v own) (hs : SlA nx H1 1 (.slice (some ⟨cb, 0, none⟩) 16 16) 16 ((costI e 0).flatMap c16) (cb + 1)) (hcb : nx0 ≤ cb ∧ col cb = 0 ∧ cb ≠ bE ∧ cb ≠ bL ∧ cb + 1 ≠ own) (hlk : ∀ a ∈ e.lk, 0 ≤ andI .u16 a.2.came 7 ∧ andI .u16 a.2.came 7 < 8)
    (hlo0 : lo ≤ nx0) (hK : ∀ H, AddI lo nx0 H0 p col0 bE bL e L H nx y col v own → SlA nx H 1 (.slice (some ⟨cb, 0, none⟩) 16 16) 16 ((costsE e).flatMap c16) (cb + 1) → K0 [(1, .pointer (some ⟨bE, 0, none⟩)), (3, .pointer (some ⟨bL, 0, none⟩)), (4, addV bE bL), (7, .slice (some ⟨cb, 0, none⟩) 16 16), (48, .int .i64 (16 : Nat)), (49, .int .i64 (16 : Nat)), (50, .bool false)] H nx) :
    awp Tryz.prog lo L17 selL2 (blockQ 2 (thenQ K0 Q)) [(1, .pointer (some ⟨bE, 0, none⟩)), (3, .pointer (some ⟨bL, 0, none⟩)), (4, addV bE bL), (7, .slice (some ⟨cb, 0, none⟩) 16 16), (48, .int .i64 (16 : Nat)), (49, .int .i64 (0 : Nat))] H1 nx := by
  have hcode : selL2 = codeAt [.T, .T, .T, .T, .T, .T, .H, .T, .I] ((Tryz.f17.body).getD .skip) := rfl
  simp only [Tryz.f17, Option.getD_some, codeAt_H, codeAt_T, codeAt_I, codeAt_L, codeAt_C, codeAt_P, codeAt_nil] at hcode
  rw [hcode]
  clear hcode
  refine awp_loop (fun m env H nx' => ∃ i, CoI lo nx0 H0 p col0 bE bL e L cb y col v own nx m env H nx' i) 16 ⟨0, ⟨by omega, by omega, rfl, rfl, h1, hs⟩⟩ (fun m env H nx' ⟨i, hI⟩ hn => ?_)
  obtain ⟨hm, hi, henv, hx, hA, hS⟩ := hI
  subst henv; subst hx
  unfold addV
  have hcn := hS.le
  by_cases hlt : i < 16
  · have cE := hA.cE
    simp (disch := omega) only [go_sem, ↓reduceIte , cE]
    refine (ecost_c hA.st.a hlk i).mono fun r H2 nx2 _ ⟨hr, hn2, hH2⟩ => ?_
    subst hr; subst hn2; subst hH2
    have hset := SlA.setE (f := c16) (k := 1) (fun _ => rfl) (l := costI e i) (by rw [costI_len]; exact hS) (i := i) (by rw [costI_len]; exact hlt) (costN e i)
    rw [costI_set e hlt, costI_len, Nat.zero_add, Nat.mul_one] at hset
    have hsome : (H2.c cb i).isSome = true := by
      have := hS.cells.2.2.2.2 i (by omega)
      rwa [Nat.zero_add] at this
    have hcast : ((i : Int) + 1) = ((i + 1 : Nat) : Int) := by omega
    have hlo1 : lo ≤ cb := by omega
    simp (disch := omega) only [go_sem, ↓reduceIte , hsome, hcast]
    exact ⟨16 - (i + 1), by omega, i + 1, ⟨rfl, by omega, rfl, rfl, hA.aside (g := cb) (by repeat first | exact Kp.refl _ _ _ | refine Kp.dropT ?_ (.inl (by omega)) | refine Kp.put ?_ (.inl (by omega)) | refine Kp.new ?_ (by omega) | refine Kp.put ?_ (.inr (by omega)) | refine Kp.newO ?_ (by omega) | refine Kp.setO ?_ (.inl (by omega)) | refine Kp.setO ?_ (.inr (by omega)) | refine Kp.trans0 ?_ (by assumption) (by omega) | refine Kp.transS ?_ (by assumption) (by omega) (fun b hb hT => by first | omega | (dsimp only at hT ⊢; omega) | (simp only at hT ⊢; omega)))  hcb.1 hcb.2.1 hcb.2.2.1 hcb.2.2.2.1 hcb.2.2.2.2, hset⟩⟩
  · have ei : i = 16 := by omega
    subst ei
    rw [costI_end] at hS
    simp (disch := omega) only [go_sem, ↓reduceIte ]
    exact hK _ hA hS
end Go.Proofs.YtngnbafididkcaaGreat
end
section
namespace Go.Proofs.YtngnbafididkcaaGreat
open Go.RowKit
set_option linter.unusedSimpArgs false

structure RtI (lo nx0 : Nat) (H0 : AH) (p : Nat) (col0 : Nat → Nat) (bE bL : Nat) (e : Eng) (L0 R : List Rt) (sv : Value) (H1 : AH) (nx1 : Nat) (c1 : Nat → Nat) (o1 : Nat) (m : Nat) (env : Env) (H : AH) (nx i : Nat) (y : ELay) (col : Nat → Nat) (v : Value) (own : Nat) (es1 : List Ent) : Prop where
  hm : m = R.length - i
  hi : i ≤ R.length
  henv : env = [(1, .pointer (some ⟨bE, 0, none⟩)), (3, .pointer (some ⟨bL, 0, none⟩)), (4, addV bE bL), (68, sv), (69, .int .i64 R.length), (70, .int .i64 i)]
  a : AddI lo nx0 H0 p col0 bE bL { e with es := es1 } (L0 ++ R.take i) H nx y col v own
  s : AddS nx1 H1 c1 bL o1 H nx col own
  l : LowL e.es (R.take i) es1
noncomputable def selL3 : Code := codeAt [.T, .T, .T, .T, .T, .T, .T, .H, .T, .I] ((Tryz.f17.body).getD .skip)
set_option maxHeartbeats 4000000 in
set_option maxRecDepth 20000 in
theorem sel_rts {lo nx0 : Nat} {H0 : AH} {p : Nat} {col0 : Nat → Nat} {bE bL : Nat} {e : Eng} {L0 : List Rt} {H1 : AH} {nx1 : Nat} {y1 : ELay} {c1 : Nat → Nat} {v1 : Value} {o1 : Nat} {R : List Rt} {sv : Value} {ow : Nat} {K0 : Env → AH → Nat → Prop} {Q : Exit → Env → AH → Nat → Prop}
    (h1 : AddI lo nx0 H0 p col0 bE bL e L0 H1 nx1 y1 c1 v1 o1) (hs : SlA nx1 H1 5 sv R.length (rtCells R) ow) (hso : ∀ b, b + 1 = ow → c1 b = 0 ∧ b ≠ bL ∧ b + 1 ≠ o1) (hpx : ∀ x ∈ R, pxRightC x.addr x.len = true ∧ 0 ≤ x.len ∧ x.metric ≠ 65535) (hlen : e.es.length + R.length ≤ 200) (hL : L0.length ≤ 200) (hlo0 : lo ≤ nx0)
    (hK : ∀ H nx y col v own es1, LowL e.es R es1 → AddI lo nx0 H0 p col0 bE bL { e with es := es1 } (L0 ++ R) H nx y col v own → AddS nx1 H1 c1 bL o1 H nx col own → K0 [(1, .pointer (some ⟨bE, 0, none⟩)), (3, .pointer (some ⟨bL, 0, none⟩)), (4, addV bE bL), (68, sv), (69, .int .i64 R.length), (70, .int .i64 R.length), (71, .bool false)] H nx) :
    awp Tryz.prog lo L17 selL3 (blockQ 4 (thenQ K0 Q)) [(1, .pointer (some ⟨bE, 0, none⟩)), (3, .pointer (some ⟨bL, 0, none⟩)), (4, addV bE bL), (68, sv), (69, .int .i64 R.length), (70, .int .i64 (0 : Nat))] H1 nx1 := by
  have hcode : selL3 = codeAt [.T, .T, .T, .T, .T, .T, .T, .H, .T, .I] ((Tryz.f17.body).getD .skip) := rfl
  simp only [Tryz.f17, Option.getD_some, codeAt_H, codeAt_T, codeAt_I, codeAt_L, codeAt_C, codeAt_P, codeAt_nil] at hcode
  rw [hcode]
  clear hcode
  refine awp_loop (fun m env H nx => ∃ i y col v own es1, RtI lo nx0 H0 p col0 bE bL e L0 R sv H1 nx1 c1 o1 m env H nx i y col v own es1) R.length ⟨0, y1, c1, v1, o1, e.es, ⟨by omega, by omega, rfl, by simpa using h1, AddS.refl, rfl⟩⟩ (fun m env H nx ⟨i, y, col, v, own, es1, hI⟩ hn => ?_)
  obtain ⟨hm, hi, henv, hA, hS, hl⟩ := hI
  subst henv
  obtain ⟨aa, ac, rfl⟩ := hs.form
  unfold addV
  by_cases hlt : i < R.length
  · obtain ⟨g, off, cap, hv, hgo⟩ := hs.open (by omega)
    simp only [Value.slice.injEq, true_and] at hv
    obtain ⟨rfl, rfl⟩ := hv
    have hsn := hs.kp hS.kp hS.le (fun b hb h => by have := hso b hb; omega)
    have hx0 : R[i]? = some R[i] := List.getElem?_eq_getElem hlt
    have hld := rt_load hsn hx0
    have htk : R.take (i + 1) = R.take i ++ [R[i]] := by rw [List.take_succ_eq_append_getElem hlt]
    have hpk := hpx R[i] (List.getElem_mem hlt)
    have hll := hl.len
    rw [List.length_take, Nat.min_eq_left hi] at hll
    generalize R[i] = x at hld hx0 htk hpk
    unfold Rt.cells at hld
    have hlo : lo ≤ nx := by have := hA.st.le; omega
    have hlE := hA.lE
    have hcast : ((i : Int) + 1) = ((i + 1 : Nat) : Int) := by omega
    simp (disch := omega) only [go_sem, ↓reduceIte , hld]
    intro d hd
    have kd : Kp (fun _ => False) nx H (((((H.new d #[.int .u32 0, .int .u8 0, .int .i64 0, .int .u16 0, .int .u16 0] 40).put d 0 (.int .u32 x.addr)).put d 1 (.int .u8 x.len)).put d (1 + 1) (.int .i64 x.via)).put d (1 + 1 + 1) (.int .u16 x.metric) |>.put d (1 + 1 + 1 + 1) (.int .u16 x.seq)) := (by repeat first | exact Kp.refl _ _ _ | refine Kp.dropT ?_ (.inl (by omega)) | refine Kp.put ?_ (.inl (by omega)) | refine Kp.new ?_ (by omega) | refine Kp.put ?_ (.inr (by omega)) | refine Kp.newO ?_ (by omega) | refine Kp.setO ?_ (.inl (by omega)) | refine Kp.setO ?_ (.inr (by omega)) | refine Kp.trans0 ?_ (by assumption) (by omega) | refine Kp.transS ?_ (by assumption) (by omega) (fun b hb hT => by first | omega | (dsimp only at hT ⊢; omega) | (simp only at hT ⊢; omega))) 
    have hA1 := hA.still kd (show nx ≤ d + 1 by omega)
    simp (disch := omega) only [go_sem, ↓reduceIte ]
    refine (eselC_c hA1 x hpk.1 hpk.2.1 hpk.2.2 (by show es1.length ≤ 200; omega) (by rw [List.length_append, List.length_take]; omega) hlo0).mono fun r H2 nx2 _ ⟨hr, es', y', col', v', own', hlow, hA2, hS2⟩ => ?_
    subst hr
    simp (disch := omega) only [go_sem, ↓reduceIte , hcast]
    refine ⟨R.length - (i + 1), by omega, i + 1, y', col', v', own', es', ⟨rfl, by omega, rfl, ?_, (hS.still kd (by omega)).trans hS2, ?_⟩⟩
    · rw [htk, ← List.append_assoc]; exact hA2
    · rw [htk]; exact hl.snoc hlow
  · have ei : i = R.length := by omega
    subst ei
    rw [List.take_length] at hA hl
    simp (disch := omega) only [go_sem, ↓reduceIte ]
    exact hK _ _ _ _ _ _ _ hl hA hS
end Go.Proofs.YtngnbafididkcaaGreat
end
