/- Engine: Tell, where a hello is due: in our own logic. -/
import Derived.Test.YtngnbafididkcaaGreatN40
import Derived.Test.YtngnbafididkcaaGreatS6
namespace Go.Proofs.YtngnbafididkcaaGreat
open Go.RowKit
set_option linter.unusedSimpArgs false

def recvN (e : Eng) (n : Int) : Int := match getA n e.lk with | some l => recvL l | none => 65535
def heardPt (e : Eng) (l : List Int) : List Prt := l.map fun n => ⟨2, 0, n, 0, 0, 0, recvN e n⟩
theorem heardPt_snoc (e : Eng) (l : List Int) (n : Int) : heardPt e (l ++ [n]) = heardPt e l ++ [⟨2, 0, n, 0, 0, 0, recvN e n⟩] := by simp [heardPt]
theorem int_load {nx : Nat} {H : AH} {g off c n own : Nat} {l : List Int} (hs : SlA nx H 1 (.slice (some ⟨g, off, none⟩) n c) n (l.map encZ) own) {i : Nat} {x : Int} (hi : l[i]? = some x) : H.c g (off + i) = some (.int .i64 x) :=
  hs.cells.1 i _ (by rw [List.getElem?_map, hi]; rfl)
/-- Within the loop over the neighbors. -/
structure THI (lo nx0 : Nat) (H0 : AH) (p : Nat) (col0 : Nat → Nat) (b6 b8 : Nat) (e : Eng) (P0 : List Prt) (ks : List Int) (now : Int) (sv v9 : Value) (o9 : Nat) (m : Nat) (env : Env) (H : AH) (nx i : Nat) (y : ELay) (col : Nat → Nat) (v : Value) (own : Nat) : Prop where
  hm : m = ks.length - i
  hi : i ≤ ks.length
  henv : env = [(0, .pointer (some ⟨p, 0, none⟩)), (1, .int .u64 now), (2, sv), (6, .pointer (some ⟨b6, 0, none⟩)), (8, .pointer (some ⟨b8, 0, none⟩)), (49, v9), (50, .int .i64 ks.length), (51, .int .i64 i)]
  a : TeI lo nx0 H0 p col0 b6 b8 e (P0 ++ heardPt e (ks.take i)) H nx y col v own
  s9 : SlA nx H 1 v9 ks.length (ks.map encZ) o9
  n9 : o9 = 0 ∨ (o9 ≠ own ∧ o9 ≠ b8 + 1)
noncomputable def teL0 : Code := codeAt [.T, .T, .T, .H, .T, .C, .T, .T, .T, .I] ((Tryz.f28.body).getD .skip)
set_option maxHeartbeats 4000000 in
set_option maxRecDepth 20000 in
theorem te_heard {lo nx0 : Nat} {H0 : AH} {p : Nat} {col0 : Nat → Nat} {b6 b8 : Nat} {e : Eng} {P0 : List Prt} {H1 : AH} {nx1 : Nat} {y1 : ELay} {c1 : Nat → Nat} {v1 : Value} {o1 : Nat} {ks : List Int} {now : Int} {sv v9 : Value} {o9 : Nat} {K0 : Env → AH → Nat → Prop} {Q : Exit → Env → AH → Nat → Prop}
    (h1 : TeI lo nx0 H0 p col0 b6 b8 e P0 H1 nx1 y1 c1 v1 o1) (hs9 : SlA nx1 H1 1 v9 ks.length (ks.map encZ) o9) (hn9 : o9 = 0 ∨ (o9 ≠ o1 ∧ o9 ≠ b8 + 1)) (hP : P0.length ≤ 1000000) (hkl : ks.length ≤ 1000000) (hks : ∀ n ∈ ks, (getA n e.lk).isSome = true) (hlk : ∀ a ∈ e.lk, 0 ≤ andI .u16 a.2.came 7 ∧ andI .u16 a.2.came 7 < 8) (hlo0 : lo ≤ nx0)
    (hK : ∀ H nx y col v own, TeI lo nx0 H0 p col0 b6 b8 e (P0 ++ heardPt e ks) H nx y col v own → K0 [(0, .pointer (some ⟨p, 0, none⟩)), (1, .int .u64 now), (2, sv), (6, .pointer (some ⟨b6, 0, none⟩)), (8, .pointer (some ⟨b8, 0, none⟩)), (49, v9), (50, .int .i64 ks.length), (51, .int .i64 ks.length), (52, .bool false)] H nx) :
    awp Tryz.prog lo L28 teL0 (blockQ 0 (thenQ K0 Q)) [(0, .pointer (some ⟨p, 0, none⟩)), (1, .int .u64 now), (2, sv), (6, .pointer (some ⟨b6, 0, none⟩)), (8, .pointer (some ⟨b8, 0, none⟩)), (49, v9), (50, .int .i64 ks.length), (51, .int .i64 (0 : Nat))] H1 nx1 := by
  have hcode : teL0 = codeAt [.T, .T, .T, .H, .T, .C, .T, .T, .T, .I] ((Tryz.f28.body).getD .skip) := rfl
  simp only [Tryz.f28, Option.getD_some, codeAt_H, codeAt_T, codeAt_I, codeAt_L, codeAt_C, codeAt_P, codeAt_nil] at hcode
  rw [hcode]
  clear hcode
  refine awp_loop (fun m env H nx => ∃ i y col v own, THI lo nx0 H0 p col0 b6 b8 e P0 ks now sv v9 o9 m env H nx i y col v own) ks.length ⟨0, y1, c1, v1, o1, ⟨by omega, by omega, rfl, by simpa [heardPt] using h1, hs9, hn9⟩⟩ (fun m env H nx ⟨i, y, col, v, own, hI⟩ hn => ?_)
  obtain ⟨hm, hi, henv, hA, hs, hn9⟩ := hI
  subst henv
  obtain ⟨aa, ac, rfl⟩ := hs.form
  by_cases hlt : i < ks.length
  · obtain ⟨g, off, cap, hv, hgo⟩ := hs.open (by omega)
    simp only [Value.slice.injEq, true_and] at hv
    obtain ⟨rfl, rfl⟩ := hv
    have hx0 : ks[i]? = some ks[i] := List.getElem?_eq_getElem hlt
    have hld := int_load hs hx0
    have htk : ks.take (i + 1) = ks.take i ++ [ks[i]] := by rw [List.take_succ_eq_append_getElem hlt]
    have hkn := hks ks[i] (List.getElem_mem hlt)
    generalize ks[i] = n at hld hx0 htk hkn
    obtain ⟨l, hl⟩ := Option.isSome_iff_exists.1 hkn
    have hrc : recvN e n = recvL l := by unfold recvN; rw [hl]
    have hlo : lo ≤ nx := by have := hA.st.le; omega
    have hnx0 := hA.st.le
    have hl8 := hA.l8
    have hov := hA.sl.one
    have c81 := hA.c81
    have c1 := hA.st.a.c.c1
    have hpn := hA.st.a.k.lt hA.st.a.k.kp (by omega)
    have hll := lk_look hA.st.a.lk n
    rw [hl, Option.map_some] at hll
    have hm := getA_mem hl
    have hcast : ((i : Int) + 1) = ((i + 1 : Nat) : Int) := by omega
    have hPl : (P0 ++ heardPt e (ks.take i)).length ≤ 2000000 := by
      rw [List.length_append]
      unfold heardPt
      rw [List.length_map, List.length_take]
      omega
    simp (disch := omega) only [go_sem, ↓reduceIte , hld, Nat.mul_one]
    refine awp_draw ord28x10 (by kernel_rfl) ?_
    simp (disch := omega) only [go_sem, ↓reduceIte , ord28x10, c81, c1, hll, hov]
    refine (lreceives_c (hA.st.a.lk.ln _ hm) (hlk _ hm).1 (hlk _ hm).2).mono fun r H2 nx2 _ ⟨hr, hx2, hH2⟩ => ?_
    subst hr; subst hx2; subst hH2
    simp (disch := omega) only [go_sem, ↓reduceIte , ord28x10, c81, c1, hll, hov]
    refine buildSQ_all (n := 1) [.agg #[.int .u8 2, .int .u64 0, .int .i64 n, .int .u32 0, .int .u8 0, .int .u16 0, .int .u16 (recvL l)]] sl34 zero32 (by omega) (by omega) rfl (by simp [cells_agg]) fun f hf => ?_
    have hlit := pt_lit H2 f 32 ⟨2, 0, n, 0, 0, 0, recvL l⟩
    have how := hA.ow
    have hs6 := hA.sl.new (vs := ([Value.agg #[.int .u8 2, .int .u64 0, .int .i64 n, .int .u32 0, .int .u8 0, .int .u16 0, .int .u16 (recvL l)]].flatMap fun v => v.cells.toList).toArray) (e := 32) hf
    simp (disch := omega) only [go_sem, ↓reduceIte ]
    refine ⟨dkeep_kp (by repeat first | exact Kp.refl _ _ _ | refine Kp.dropT ?_ (.inl (by omega)) | refine Kp.put ?_ (.inl (by omega)) | refine Kp.new ?_ (by omega) | refine Kp.put ?_ (.inr (by omega)) | refine Kp.newO ?_ (by omega) | refine Kp.setO ?_ (.inl (by omega)) | refine Kp.setO ?_ (.inr (by omega)) | refine Kp.trans0 ?_ (by assumption) (by omega) | refine Kp.transS ?_ (by assumption) (by omega) (fun b hb hT => by first | omega | (dsimp only at hT ⊢; omega) | (simp only at hT ⊢; omega))) , ?_⟩
    refine appendQ_two (aw_append sl34 zero32 rfl by32 hs6 (hlit.src sl34 ptCells_one) (by simp only [maxLen]; omega) (by omega) (by omega) fun v7' H7 nx7 own7 hn7 hs7 ho7 hk7 _ => ?_)
    have hone7 := hs7.one
    have ho8 := hA.o8
    have hl82 := hA.l8
    have c87 : H7.c b8 1 = some v := by rw [hk7.cell b8 1 (by omega) (by omega)]; simp (disch := omega) only [go_sem, ↓reduceIte , c81]
    have c807 : H7.c b8 0 = some (.int .i64 e.id) := by rw [hk7.cell b8 0 (by omega) (by omega)]; simp (disch := omega) only [go_sem, ↓reduceIte , hA.c80]
    have hnl := hA.g8
    have hlo8 : lo ≤ b8 := by omega
    simp (disch := omega) only [go_sem, ↓reduceIte , hone7, c87]
    refine ⟨dkeep_last (by kernel_rfl), dkeep_last (by kernel_rfl), ?_⟩
    have k27 : Kp (fun b => b = b8 ∨ b + 1 = own) nx2 H2 (H7.put b8 1 v7') := (by repeat first | exact Kp.refl _ _ _ | refine Kp.dropT ?_ (.inl (by omega)) | refine Kp.put ?_ (.inl (by omega)) | refine Kp.new ?_ (by omega) | refine Kp.put ?_ (.inr (by omega)) | refine Kp.newO ?_ (by omega) | refine Kp.setO ?_ (.inl (by omega)) | refine Kp.setO ?_ (.inr (by omega)) | refine Kp.trans0 ?_ (by assumption) (by omega) | refine Kp.transS ?_ (by assumption) (by omega) (fun b hb hT => by first | omega | (dsimp only at hT ⊢; omega) | (simp only at hT ⊢; omega))) 
    have hfin := hA.push (P' := (P0 ++ heardPt e (ks.take i)) ++ [⟨2, 0, n, 0, 0, 0, recvL l⟩]) (v' := v7') (own' := own7) (nx' := nx7) k27 (by omega) (by simp (disch := omega) only [go_sem, ↓reduceIte , c807]) (by simp (disch := omega) only [go_sem, ↓reduceIte ]) (by
      rw [List.length_append, ptCells_append]
      exact hs7.put (by omega)) (by omega)
    rw [hcast]
    refine ⟨ks.length - (i + 1), by omega, i + 1, y, col, v7', own7, ⟨rfl, by omega, rfl, ?_, hs.kp k27 (by omega) (by have := hs.le; omega), by have := hs.le; omega⟩⟩
    rw [htk, heardPt_snoc, ← List.append_assoc, hrc]
    exact hfin
  · have ei : i = ks.length := by omega
    subst ei
    rw [List.take_length] at hA
    simp (disch := omega) only [go_sem, ↓reduceIte ]
    exact hK _ _ _ _ _ _ hA
/-- What is told of its ways, where that is due. -/
noncomputable def teA : Code := codeAt [.T, .T, .T, .T, .H, .T, .C] ((Tryz.f28.body).getD .skip)
set_option maxHeartbeats 4000000 in
set_option maxRecDepth 20000 in
theorem te_told {lo nx0 : Nat} {H0 : AH} {p : Nat} {col0 : Nat → Nat} {b6 b8 : Nat} {e : Eng} {may : Rt → Bool} {P0 : List Prt} {H : AH} {nx : Nat} {y : ELay} {col : Nat → Nat} {v : Value} {own : Nat} {now : Int} {sv : Value} {R : Value → AH → Nat → Prop} {rest : Env}
    (h0 : TeI lo nx0 H0 p col0 b6 b8 e P0 H nx y col v own) (hP0 : P0.length ≤ 1000000) (hll : e.lost.length ≤ 1000000) (hsl : e.sel.length ≤ 1000) (hal : e.asks.length ≤ 1000) (hlo : lo ≤ nx0)
    (hmay : ∀ r ∈ e.sel, ∀ (H' : AH) (nx' : Nat), nx0 ≤ nx' → Kp (fun b => col0 b ≠ 0) nx0 H0 H' → ACalls Tryz.prog lo 64 #[.agg r.cells.toArray, sv] H' nx' (fun w H2 nx2 => w = .bool (may r) ∧ nx' ≤ nx2 ∧ Kp (fun _ => False) nx' H' H2))
    (hR : ∀ H' nx' y' col' v' own', EngS lo nx0 H0 p col0 { e with lost := [], due := false, asks := [] } H' nx' y' col' → SlA nx' H' 7 v' (P0 ++ lostPt e e.lost ++ selPt e may e.sel ++ e.asks).length (ptCells (P0 ++ lostPt e e.lost ++ selPt e may e.sel ++ e.asks)) own' → (own' = 0 ∨ nx0 < own') → (∀ b, b + 1 = own' → col' b = 0) → R (.tuple #[.agg #[.int .i64 e.id, v'], .bool (decide (0 < ((P0 ++ lostPt e e.lost ++ selPt e may e.sel ++ e.asks).length : Int)))]) H' nx') :
    awp Tryz.prog lo L28 teA (thenQ (awp Tryz.prog lo L28 teT5 (retQ Tryz.prog Tryz.f28 R)) (retQ Tryz.prog Tryz.f28 R)) ((0, .pointer (some ⟨p, 0, none⟩)) :: (2, sv) :: (6, .pointer (some ⟨b6, 0, none⟩)) :: (8, .pointer (some ⟨b8, 0, none⟩)) :: rest) H nx := by
  have hcode : teA = .seq (.seq (codeAt [.T, .T, .T, .T, .H, .T, .C, .H, .H] ((Tryz.f28.body).getD .skip)) (.block 2 teL2)) (.seq (.seq (codeAt [.T, .T, .T, .T, .H, .T, .C, .T, .H, .H] ((Tryz.f28.body).getD .skip)) (.block 4 teL3)) (codeAt [.T, .T, .T, .T, .H, .T, .C, .T, .T] ((Tryz.f28.body).getD .skip))) := rfl
  simp only [Tryz.f28, Option.getD_some, codeAt_H, codeAt_T, codeAt_I, codeAt_L, codeAt_C, codeAt_P, codeAt_nil] at hcode
  rw [hcode]
  clear hcode
  have hle0 := h0.st.le
  have hpn := h0.st.a.k.lt h0.st.a.k.kp (by omega)
  have m7 := h0.st.a.c.c7
  have m7o := h0.st.a.s7.one
  obtain ⟨sa, sc, hf7⟩ := h0.st.a.s7.form
  rw [hf7] at m7 m7o
  simp (disch := omega) only [go_sem, ↓reduceIte , m7, m7o]
  refine te_lost (now := now) hf7 h0 hP0 (by omega) (by omega) hlo (fun H2 nx2 y2 c2 v2 o2 h2 => ?_)
  obtain ⟨s5a, s5c, hf5⟩ := h2.st.a.s5.form
  have m5 := h2.st.a.c.c5
  have m5o := h2.st.a.s5.one
  rw [hf5] at m5 m5o
  simp (disch := omega) only [go_sem, ↓reduceIte , m5, m5o]
  have hl0 : (lostPt e e.lost).length ≤ e.lost.length := by
    unfold lostPt
    rw [List.length_map]
    exact List.length_filter_le _ _
  refine te_sel (may := may) hf5 h2 (by rw [List.length_append]; omega) (by omega) hlo hmay (fun H3 nx3 y3 c3 v3 o3 h3 => ?_)
  have hpn3 := h3.st.a.k.lt h3.st.a.k.kp (by omega)
  have hlop3 := hpn3.1
  have hlo3 : lo ≤ nx3 := by omega
  have q0 := h3.st.a.c.c0
  have q7 := h3.st.a.c.c7
  have q9 : H3.c p (7 + 1 + 1) = some (.bool e.due) := h3.st.a.c.c9
  simp (disch := omega) only [go_sem, ↓reduceIte , q0, q7, q9]
  have hE7 := h3.st.a.c.put7 (l := []) (v := .slice none 0 0) 0
  have k7 : Kp (fun b => b = p) nx3 H3 (H3.put p 7 (.slice none 0 0)) := (by repeat first | exact Kp.refl _ _ _ | refine Kp.dropT ?_ (.inl (by omega)) | refine Kp.put ?_ (.inl (by omega)) | refine Kp.new ?_ (by omega) | refine Kp.put ?_ (.inr (by omega)) | refine Kp.newO ?_ (by omega) | refine Kp.setO ?_ (.inl (by omega)) | refine Kp.setO ?_ (.inr (by omega)) | refine Kp.trans0 ?_ (by assumption) (by omega) | refine Kp.transS ?_ (by assumption) (by omega) (fun b hb hT => by first | omega | (dsimp only at hT ⊢; omega) | (simp only at hT ⊢; omega))) 
  have a7 := h3.st.a.setLost (l := []) (nx' := nx3) (Nat.le_refl _) (k7.mono (Nat.le_refl _) (fun _ _ h => .inl h)) hE7 (SlA.nil _ _ _) (.inl rfl) (fun b hb => by omega)
  have k9 : Kp (fun b => b = p) nx3 (H3.put p 7 (.slice none 0 0)) ((H3.put p 7 (.slice none 0 0)).put p (7 + 2) (.bool false)) := (by repeat first | exact Kp.refl _ _ _ | refine Kp.dropT ?_ (.inl (by omega)) | refine Kp.put ?_ (.inl (by omega)) | refine Kp.new ?_ (by omega) | refine Kp.put ?_ (.inr (by omega)) | refine Kp.newO ?_ (by omega) | refine Kp.setO ?_ (.inl (by omega)) | refine Kp.setO ?_ (.inr (by omega)) | refine Kp.trans0 ?_ (by assumption) (by omega) | refine Kp.transS ?_ (by assumption) (by omega) (fun b hb hT => by first | omega | (dsimp only at hT ⊢; omega) | (simp only at hT ⊢; omega))) 
  have a9 := a7.scal (e' := { e with lost := [], due := false }) k9 (a7.c.put9 false) rfl rfl rfl rfl rfl rfl rfl
  have k79 : Kp (fun b => b = p) nx3 H3 ((H3.put p 7 (.slice none 0 0)).put p (7 + 2) (.bool false)) := (by repeat first | exact Kp.refl _ _ _ | refine Kp.dropT ?_ (.inl (by omega)) | refine Kp.put ?_ (.inl (by omega)) | refine Kp.new ?_ (by omega) | refine Kp.put ?_ (.inr (by omega)) | refine Kp.newO ?_ (by omega) | refine Kp.setO ?_ (.inl (by omega)) | refine Kp.setO ?_ (.inr (by omega)) | refine Kp.trans0 ?_ (by assumption) (by omega) | refine Kp.transS ?_ (by assumption) (by omega) (fun b hb hT => by first | omega | (dsimp only at hT ⊢; omega) | (simp only at hT ⊢; omega))) 
  have h4 := h3.eng (e' := { e with lost := [], due := false }) ⟨Nat.le_refl _, k79.mono (Nat.le_refl _) (fun b _ hb => by rw [hb, h3.st.a.k.kp]; omega), a9, recol_fp (fun b hb => by omega)⟩ rfl
  generalize ((H3.put p 7 (.slice none 0 0)).put p (7 + 2) (.bool false)) = M4 at h4 ⊢
  refine te_end h4 ?_ (by show e.asks.length ≤ _; omega) hlo (fun H' nx' y' col' v' own' s1 s2 s3 s4 => hR _ _ _ _ _ _ s1 s2 s3 s4)
  rw [List.length_append, List.length_append]
  unfold selPt
  rw [List.length_map]
  omega
theorem getA_has {β : Type} {a : Int × β} : ∀ {l : List (Int × β)}, a ∈ l → (getA a.1 l).isSome = true
  | [], h => by cases h
  | b :: l, h => by
    unfold getA
    by_cases hb : b.1 = a.1
    · rw [if_pos hb]; rfl
    · rw [if_neg hb]
      rcases List.mem_cons.1 h with rfl | h
      · exact absurd rfl hb
      · exact getA_has h
theorem EngC.put6 {H : AH} {p : Nat} {e : Eng} {y : ELay} (h : EngC H p e y) (n : Int) : EngC (H.put p 6 (.int .u64 n)) p { e with hello := n } y := by
  obtain ⟨d0, d1, d2, d3, d4, d5, d6, d7, d8, d9, d10, d11, d12, d13⟩ := h
  exact ⟨by simp (disch := omega) only [go_sem, ↓reduceIte , d0], by simp (disch := omega) only [go_sem, ↓reduceIte , d1], by simp (disch := omega) only [go_sem, ↓reduceIte , d2], by simp (disch := omega) only [go_sem, ↓reduceIte , d3], by simp (disch := omega) only [go_sem, ↓reduceIte , d4], by simp (disch := omega) only [go_sem, ↓reduceIte , d5], by simp (disch := omega) only [go_sem, ↓reduceIte ], by simp (disch := omega) only [go_sem, ↓reduceIte , d7], by simp (disch := omega) only [go_sem, ↓reduceIte , d8], by simp (disch := omega) only [go_sem, ↓reduceIte , d9], by simp (disch := omega) only [go_sem, ↓reduceIte , d10], by simp (disch := omega) only [go_sem, ↓reduceIte , d11], by simp (disch := omega) only [go_sem, ↓reduceIte , d12], by simp (disch := omega) only [go_sem, ↓reduceIte , d13]⟩
/-- Is what it has told of due? -/
def dueE (e : Eng) (now : Int) : Bool := e.due || decide (now % 8 = 0)
def helloE (e : Eng) : Eng := { e with hello := e.hello + 1 }
/-- What goes out, where a hello is due. -/
def tellH (e : Eng) (now : Int) (may : Rt → Bool) (ks : List Int) : List Prt := ⟨1, e.hello, 0, 0, 0, 0, 0⟩ :: heardPt e ks ++ (if dueE e now = true then lostPt e e.lost ++ selPt e may e.sel else []) ++ e.asks
def tellHE (e : Eng) (now : Int) : Eng := if dueE e now = true then { helloE e with lost := [], due := false, asks := [] } else { helloE e with asks := [] }
noncomputable def teX5 : Code := codeAt [.T, .T, .T, .H, .T, .C] ((Tryz.f28.body).getD .skip)
set_option maxHeartbeats 4000000 in
set_option maxRecDepth 20000 in
theorem etellH_c {lo nx : Nat} {H : AH} {p : Nat} {e : Eng} {y : ELay} {col : Nat → Nat} {may : Rt → Bool} {sv : Value} (hA : EngA lo nx H p e y col) (now : Int) (hnow : 0 ≤ now ∧ now ≤ 1000000 ∧ now % 2 = 0) (hhl : 0 ≤ e.hello ∧ e.hello ≤ 1000000) (hll : e.lost.length ≤ 1000000) (hsl : e.sel.length ≤ 1000) (hal : e.asks.length ≤ 1000) (hkl : e.lk.length ≤ 1000) (hkw : ∀ a ∈ e.lk, (Lit.int .i64 a.1).wf = true) (hlk : ∀ a ∈ e.lk, 0 ≤ andI .u16 a.2.came 7 ∧ andI .u16 a.2.came 7 < 8)
    (hmay : ∀ r ∈ e.sel, ∀ (H' : AH) (nx' : Nat), nx ≤ nx' → Kp (fun b => col b ≠ 0) nx H H' → ACalls Tryz.prog lo 64 #[.agg r.cells.toArray, sv] H' nx' (fun w H2 nx2 => w = .bool (may r) ∧ nx' ≤ nx2 ∧ Kp (fun _ => False) nx' H' H2)) :
    ACalls Tryz.prog lo 28 #[.pointer (some ⟨p, 0, none⟩), .int .u64 now, sv] H nx (fun r H' nx' => ∃ v' y' col' own' ks, ks.Perm (e.lk.map (·.1)) ∧ ks.Pairwise (· ≤ ·) ∧ r = .tuple #[.agg #[.int .i64 e.id, v'], .bool (decide (0 < ((tellH e now may ks).length : Int)))] ∧ EngS lo nx H p col (tellHE e now) H' nx' y' col' ∧ SlA nx' H' 7 v' (tellH e now may ks).length (ptCells (tellH e now may ks)) own' ∧ (own' = 0 ∨ nx < own') ∧ ∀ b, b + 1 = own' → col' b = 0) := by
  refine ACalls.withLo fun hlo => ?_
  refine acalls_of_awp (c := teT0) L28 Tryz.func28 rfl (by kernel_rfl) ?_
  have hcode : teT0 = .seq (codeAt [.H] ((Tryz.f28.body).getD .skip)) (.seq (codeAt [.T, .H] ((Tryz.f28.body).getD .skip)) (.seq (codeAt [.T, .T, .H] ((Tryz.f28.body).getD .skip)) (.seq (.seq (codeAt [.T, .T, .T, .H, .H] ((Tryz.f28.body).getD .skip)) (.cond (.tmp 26) (.seq (codeAt [.T, .T, .T, .H, .T, .C, .H] ((Tryz.f28.body).getD .skip)) (.seq (codeAt [.T, .T, .T, .H, .T, .C, .T, .H] ((Tryz.f28.body).getD .skip)) (.seq (codeAt [.T, .T, .T, .H, .T, .C, .T, .T, .H] ((Tryz.f28.body).getD .skip)) (.block 0 teL0)))) .skip)) (.seq (.seq (codeAt [.T, .T, .T, .T, .H, .H] ((Tryz.f28.body).getD .skip)) (.cond (.tmp 79) teA .skip)) teT5)))) := rfl
  simp only [Tryz.f28, Option.getD_some, codeAt_H, codeAt_T, codeAt_I, codeAt_L, codeAt_C, codeAt_P, codeAt_nil] at hcode
  rw [hcode]
  clear hcode
  generalize hR : (fun (r : Value) (H' : AH) (nx' : Nat) => ∃ v' y' col' own' ks, ks.Perm (e.lk.map (·.1)) ∧ ks.Pairwise (· ≤ ·) ∧ r = .tuple #[.agg #[.int .i64 e.id, v'], .bool (decide (0 < ((tellH e now may ks).length : Int)))] ∧ EngS lo nx H p col (tellHE e now) H' nx' y' col' ∧ SlA nx' H' 7 v' (tellH e now may ks).length (ptCells (tellH e now may ks)) own' ∧ (own' = 0 ∨ nx < own') ∧ ∀ b, b + 1 = own' → col' b = 0) = R
  have c0 := hA.c.c0
  have hpn := hA.k.lt hA.k.kp (by omega)
  simp (disch := omega) only [go_sem, ↓reduceIte ]
  intro b6 h6
  simp (disch := omega) only [go_sem, ↓reduceIte , c0]
  intro b8 h8
  have c01 : (H.new b6 #[.int .i64 0, .slice none 0 0] 36).c p 0 = some (.int .i64 e.id) := by simp (disch := omega) only [go_sem, ↓reduceIte , c0]
  have k0 : Kp (fun _ => False) nx H (((H.new b6 #[.int .i64 0, .slice none 0 0] 36).new b8 #[.int .i64 0, .slice none 0 0] 36).put b8 0 (.int .i64 e.id) |>.put b8 1 (.slice none 0 0)) := (by repeat first | exact Kp.refl _ _ _ | refine Kp.dropT ?_ (.inl (by omega)) | refine Kp.put ?_ (.inl (by omega)) | refine Kp.new ?_ (by omega) | refine Kp.put ?_ (.inr (by omega)) | refine Kp.newO ?_ (by omega) | refine Kp.setO ?_ (.inl (by omega)) | refine Kp.setO ?_ (.inr (by omega)) | refine Kp.trans0 ?_ (by assumption) (by omega) | refine Kp.transS ?_ (by assumption) (by omega) (fun b hb hT => by first | omega | (dsimp only at hT ⊢; omega) | (simp only at hT ⊢; omega))) 
  have col0 : ∀ b, nx ≤ b → col b = 0 := fun b hb => Classical.byContradiction fun hc => by have := hA.k.rng b hc; omega
  have h0 : TeI lo nx H p col b6 b8 e [] (((H.new b6 #[.int .i64 0, .slice none 0 0] 36).new b8 #[.int .i64 0, .slice none 0 0] 36).put b8 0 (.int .i64 e.id) |>.put b8 1 (.slice none 0 0)) (b8 + 1) y col (.slice none 0 0) 0 :=
    ⟨(EngS.refl hA).still k0 (by omega), h6, by omega, col0 b6 h6, by simp (disch := omega) only [go_sem, ↓reduceIte ], by simp (disch := omega) only [go_sem, ↓reduceIte ], by omega, by omega, col0 b8 (by omega), by simp (disch := omega) only [go_sem, ↓reduceIte ], by simp (disch := omega) only [go_sem, ↓reduceIte ], by omega, SlA.nil _ _ _, .inl rfl, by omega, by omega, fun b hb => by omega⟩
  simp (disch := omega) only [go_sem, ↓reduceIte , c0]
  generalize (((H.new b6 #[.int .i64 0, .slice none 0 0] 36).new b8 #[.int .i64 0, .slice none 0 0] 36).put b8 0 (.int .i64 e.id) |>.put b8 1 (.slice none 0 0)) = M at h0 ⊢
  have d6 := h0.st.a.c.c6
  have d81 := h0.c81
  have d80 := h0.c80
  have dl8 := h0.l8
  refine awp_draw ord28x5 (by kernel_rfl) ?_
  simp (disch := omega) only [go_sem, ↓reduceIte , ord28x5, d81, d6]
  refine buildSQ_all (n := 1) [.agg #[.int .u8 1, .int .u64 e.hello, .int .i64 0, .int .u32 0, .int .u8 0, .int .u16 0, .int .u16 0]] sl34 zero32 (by omega) (by omega) rfl (by simp [cells_agg]) fun f hf => ?_
  have hlit := pt_lit M f 32 ⟨1, e.hello, 0, 0, 0, 0, 0⟩
  have hs6 := h0.sl.new (vs := ([Value.agg #[.int .u8 1, .int .u64 e.hello, .int .i64 0, .int .u32 0, .int .u8 0, .int .u16 0, .int .u16 0]].flatMap fun v => v.cells.toList).toArray) (e := 32) hf
  simp (disch := omega) only [go_sem, ↓reduceIte ]
  refine ⟨dkeep_kp (by repeat first | exact Kp.refl _ _ _ | refine Kp.dropT ?_ (.inl (by omega)) | refine Kp.put ?_ (.inl (by omega)) | refine Kp.new ?_ (by omega) | refine Kp.put ?_ (.inr (by omega)) | refine Kp.newO ?_ (by omega) | refine Kp.setO ?_ (.inl (by omega)) | refine Kp.setO ?_ (.inr (by omega)) | refine Kp.trans0 ?_ (by assumption) (by omega) | refine Kp.transS ?_ (by assumption) (by omega) (fun b hb hT => by first | omega | (dsimp only at hT ⊢; omega) | (simp only at hT ⊢; omega))) , ?_⟩
  refine appendQ_two (aw_append sl34 zero32 rfl by32 hs6 (hlit.src sl34 ptCells_one) (by simp only [maxLen, List.length_nil]; omega) (by simp only [List.length_nil]; omega) (by omega) fun v7 H7 nx7 own7 hn7 hs7 ho7 hk7 _ => ?_)
  have hone7 := hs7.one
  have c87 : H7.c b8 1 = some (.slice none 0 0) := by rw [hk7.cell b8 1 (by omega) (by omega)]; simp (disch := omega) only [go_sem, ↓reduceIte , d81]
  have c807 : H7.c b8 0 = some (.int .i64 e.id) := by rw [hk7.cell b8 0 (by omega) (by omega)]; simp (disch := omega) only [go_sem, ↓reduceIte , d80]
  have hlo8 : lo ≤ b8 := by omega
  simp (disch := omega) only [go_sem, ↓reduceIte , hone7, c87]
  refine ⟨dkeep_last (by kernel_rfl), dkeep_last (by kernel_rfl), ?_⟩
  have k27 : Kp (fun b => b = b8 ∨ b + 1 = 0) (b8 + 1) M (H7.put b8 1 v7) := (by repeat first | exact Kp.refl _ _ _ | refine Kp.dropT ?_ (.inl (by omega)) | refine Kp.put ?_ (.inl (by omega)) | refine Kp.new ?_ (by omega) | refine Kp.put ?_ (.inr (by omega)) | refine Kp.newO ?_ (by omega) | refine Kp.setO ?_ (.inl (by omega)) | refine Kp.setO ?_ (.inr (by omega)) | refine Kp.trans0 ?_ (by assumption) (by omega) | refine Kp.transS ?_ (by assumption) (by omega) (fun b hb hT => by first | omega | (dsimp only at hT ⊢; omega) | (simp only at hT ⊢; omega))) 
  have h1 := h0.push (P' := [⟨1, e.hello, 0, 0, 0, 0, 0⟩]) (v' := v7) (own' := own7) (nx' := nx7) k27 (by omega) (by simp (disch := omega) only [go_sem, ↓reduceIte , c807]) (by simp (disch := omega) only [go_sem, ↓reduceIte ]) (hs7.put (by omega)) (by omega)
  have e6 : H7.c p 6 = some (.int .u64 e.hello) := by rw [hk7.cell p 6 (by omega) (by omega)]; simp (disch := omega) only [go_sem, ↓reduceIte , d6]
  have d1 := h0.st.a.c.c1
  have f1 : H7.c p 1 = some (.map (some y.ml)) := by rw [hk7.cell p 1 (by omega) (by omega)]; simp (disch := omega) only [go_sem, ↓reduceIte , d1]
  simp (disch := omega) only [go_sem, ↓reduceIte , e6, f1]
  generalize H7.put b8 1 v7 = M1 at h1 ⊢
  have hpn1 := h1.st.a.k.lt h1.st.a.k.kp (by omega)
  have hlop1 := hpn1.1
  have hle1 := h1.st.le
  have hlo1 : lo ≤ nx7 := by omega
  have k6 : Kp (fun b => b = p) nx7 M1 (M1.put p 6 (.int .u64 (e.hello + 1))) := (by repeat first | exact Kp.refl _ _ _ | refine Kp.dropT ?_ (.inl (by omega)) | refine Kp.put ?_ (.inl (by omega)) | refine Kp.new ?_ (by omega) | refine Kp.put ?_ (.inr (by omega)) | refine Kp.newO ?_ (by omega) | refine Kp.setO ?_ (.inl (by omega)) | refine Kp.setO ?_ (.inr (by omega)) | refine Kp.trans0 ?_ (by assumption) (by omega) | refine Kp.transS ?_ (by assumption) (by omega) (fun b hb hT => by first | omega | (dsimp only at hT ⊢; omega) | (simp only at hT ⊢; omega))) 
  have a6 := h1.st.a.scal (e' := helloE e) k6 (h1.st.a.c.put6 (e.hello + 1)) rfl rfl rfl rfl rfl rfl rfl
  have h2 := h1.eng (e' := helloE e) ⟨Nat.le_refl _, k6.mono (Nat.le_refl _) (fun b _ hb => by rw [hb, h1.st.a.k.kp]; omega), a6, fun b hb => .inl hb⟩ rfl
  generalize M1.put p 6 (.int .u64 (e.hello + 1)) = M2 at h2 ⊢
  refine keysI_c.mono fun r H3 nx3 _ ⟨b3, hb3, hn3, hr, hc3, hk3⟩ => ?_
  subst hr; subst hn3
  have h3 := h2.still hk3 (show nx7 ≤ b3 + 1 by omega)
  obtain ⟨ob, hob, hM⟩ := h3.st.a.lk.lm
  simp (disch := omega) only [go_sem, ↓reduceIte ]
  refine (sortedKeysI_c (show b3 < b3 + 1 by omega) hc3 hob hM (fun a ha => by
    obtain ⟨z, hz, rfl⟩ := List.mem_map.1 ha
    exact hkw z hz) (by rw [List.length_map]; show e.lk.length ≤ _; omega)).mono fun r H4 nx4 _ ⟨own9, ks, hp9, hsd9, hs9, ho9, hx9, hk9⟩ => ?_
  rw [List.map_map] at hp9
  have hp9 : ks.Perm (e.lk.map (·.1)) := hp9
  have h4 := h3.still hk9 hx9
  have hone9 := hs9.one
  obtain ⟨va, vc, rfl⟩ := hs9.form
  have hkl9 : ks.length ≤ 1000 := by rw [hp9.length_eq, List.length_map]; exact hkl
  simp (disch := omega) only [go_sem, ↓reduceIte , hone9]
  refine te_heard (e := helloE e) h4 hs9 (by have := h4.sl.le; have := h4.l8; have := h2.sl.le; omega) (by simp) (by omega) (fun n hn => ?_) hlk hlo (fun H5 nx5 y5 c5 v5 o5 h5 => ?_)
  · obtain ⟨a, ha, rfl⟩ := List.mem_map.1 (hp9.mem_iff.1 hn)
    show (getA a.1 e.lk).isSome = true
    exact getA_has ha
  have q9 : H5.c p (7 + 1 + 1) = some (.bool e.due) := h5.st.a.c.c9
  have hpn5 := h5.st.a.k.lt h5.st.a.k.kp (by omega)
  have hle5 := h5.st.le
  have hlo5 : lo ≤ nx5 := by omega
  have hhp : (heardPt (helloE e) ks).length ≤ 1000 := by unfold heardPt; rw [List.length_map]; exact hkl9
  have tt : dueE e now = true → ∀ {rest : Env}, awp Tryz.prog lo L28 teA (thenQ (awp Tryz.prog lo L28 teT5 (retQ Tryz.prog Tryz.f28 R)) (retQ Tryz.prog Tryz.f28 R)) ((0, .pointer (some ⟨p, 0, none⟩)) :: (2, sv) :: (6, .pointer (some ⟨b6, 0, none⟩)) :: (8, .pointer (some ⟨b8, 0, none⟩)) :: rest) H5 nx5 := fun hd rest =>
    te_told (now := now) h5 (by simp only [List.length_append, List.length_cons, List.length_nil]; omega) hll hsl hal hlo hmay (fun H' nx' y' col' v' own' s1 s2 s3 s4 => by
      rw [← hR]
      have hT : tellH e now may ks = [⟨1, e.hello, 0, 0, 0, 0, 0⟩] ++ heardPt (helloE e) ks ++ lostPt (helloE e) (helloE e).lost ++ selPt (helloE e) may (helloE e).sel ++ (helloE e).asks := by
        unfold tellH
        rw [if_pos hd]
        simp only [List.cons_append, List.nil_append, List.append_assoc]
        rfl
      have hE : tellHE e now = { helloE e with lost := [], due := false, asks := [] } := by unfold tellHE; rw [if_pos hd]
      exact ⟨v', y', col', own', ks, hp9, hsd9, by rw [hT]; rfl, by rw [hE]; exact s1, by rw [hT]; exact s2, s3, s4⟩)
  cases hdue : e.due with
  | true =>
    have hd : dueE e now = true := by unfold dueE; rw [hdue]; rfl
    have t1 := @tt hd
    clear tt
    rw [hdue] at q9
    simp (disch := omega) only [go_sem, ↓reduceIte , q9]
    exact t1
  | false =>
    rw [hdue] at q9
    by_cases h8 : now % 8 = 0
    · have hd : dueE e now = true := by unfold dueE; rw [hdue]; simp [h8]
      have t1 := @tt hd
      clear tt
      simp (disch := omega) only [go_sem, ↓reduceIte , q9]
      exact t1
    · have hd : dueE e now = false := by unfold dueE; rw [hdue]; simp [h8]
      clear tt
      simp (disch := omega) only [go_sem, ↓reduceIte , q9]
      have hT : tellH e now may ks = [⟨1, e.hello, 0, 0, 0, 0, 0⟩] ++ heardPt (helloE e) ks ++ (helloE e).asks := by
        unfold tellH
        rw [hd]
        simp only [Bool.false_eq_true, if_false, List.append_nil]
        rfl
      have hE : tellHE e now = { helloE e with asks := [] } := by unfold tellHE; rw [hd]; rfl
      exact te_end2 h5 (by simp only [List.length_append, List.length_cons, List.length_nil]; omega) (show e.asks.length ≤ _ by omega) hlo (fun H' nx' y' col' v' own' s1 s2 s3 s4 => by
        rw [← hR]
        exact ⟨v', y', col', own', ks, hp9, hsd9, by rw [hT]; rfl, by rw [hE]; exact s1, by rw [hT]; exact s2, s3, s4⟩)
end Go.Proofs.YtngnbafididkcaaGreat
