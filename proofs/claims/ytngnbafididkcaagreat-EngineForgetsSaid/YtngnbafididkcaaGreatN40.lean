/- Engine: Tell, its loops: in our own logic. Engine: Tell, the ways that are chosen: in our own logic. Engine: Tell, its end: in our own logic. Engine: Tell, where no hello is due: in our own logic. Engine: rows that are safe: may a way be told: in our own logic. -/
import Derived.Test.YtngnbafididkcaaGreatN22
import Derived.Test.YtngnbafididkcaaGreatN21
section
namespace Go.Proofs.YtngnbafididkcaaGreat
open Go.RowKit
set_option linter.unusedSimpArgs false

/-- Within Tell: the engine, the boxes of the result and of the packet, the packet's parts. -/
structure TeI (lo nx0 : Nat) (H0 : AH) (p : Nat) (col0 : Nat → Nat) (b6 b8 : Nat) (e : Eng) (P : List Prt) (H : AH) (nx : Nat) (y : ELay) (col : Nat → Nat) (v : Value) (own : Nat) : Prop where
  st : EngS lo nx0 H0 p col0 e H nx y col
  g6 : nx0 ≤ b6
  l6 : b6 < nx
  k6 : col b6 = 0
  c60 : (H.c b6 0).isSome = true
  c61 : (H.c b6 1).isSome = true
  g8 : nx0 ≤ b8
  l8 : b8 < nx
  k8 : col b8 = 0
  c80 : H.c b8 0 = some (.int .i64 e.id)
  c81 : H.c b8 1 = some v
  ne : b6 ≠ b8
  sl : SlA nx H 7 v P.length (ptCells P) own
  ow : own = 0 ∨ nx0 < own
  o6 : own ≠ b6 + 1
  o8 : own ≠ b8 + 1
  ko : ∀ b, b + 1 = own → col b = 0
section
variable {lo nx0 nx nx' : Nat} {H0 H H' : AH} {p : Nat} {col0 col col' : Nat → Nat} {b6 b8 : Nat} {e e' : Eng} {P P' : List Prt} {y y' : ELay} {v v' : Value} {own own' : Nat}
theorem TeI.eng (h : TeI lo nx0 H0 p col0 b6 b8 e P H nx y col v own) (s : EngS lo nx H p col e' H' nx' y' col') (hid : e'.id = e.id) : TeI lo nx0 H0 p col0 b6 b8 e' P H' nx' y' col' v own := by
  have z : ∀ b, col b = 0 → b < nx → col' b = 0 := fun b h0 hb => by
    refine Classical.byContradiction fun hc => ?_
    rcases s.fp b hc with h1 | h1
    · exact h1 h0
    · omega
  have hle := h.sl.le
  refine ⟨h.st.trans s, h.g6, by have := h.l6; have := s.le; omega, z _ h.k6 h.l6, ?_, ?_, h.g8, by have := h.l8; have := s.le; omega, z _ h.k8 h.l8, ?_, ?_, h.ne, h.sl.kp s.kp s.le (fun b hb => by rw [h.ko b hb]; simp), h.ow, h.o6, h.o8, fun b hb => z _ (h.ko b hb) (by omega)⟩
  · rw [s.kp.cell b6 0 h.l6 (by rw [h.k6]; simp)]; exact h.c60
  · rw [s.kp.cell b6 1 h.l6 (by rw [h.k6]; simp)]; exact h.c61
  · rw [s.kp.cell b8 0 h.l8 (by rw [h.k8]; simp), hid]; exact h.c80
  · rw [s.kp.cell b8 1 h.l8 (by rw [h.k8]; simp)]; exact h.c81
theorem TeI.still (h : TeI lo nx0 H0 p col0 b6 b8 e P H nx y col v own) (hk : Kp (fun _ => False) nx H H') (hn : nx ≤ nx') : TeI lo nx0 H0 p col0 b6 b8 e P H' nx' y col v own :=
  h.eng ((EngS.refl h.st.a).still hk hn) rfl
/-- The parts change. -/
theorem TeI.push (h : TeI lo nx0 H0 p col0 b6 b8 e P H nx y col v own) (hk : Kp (fun b => b = b8 ∨ b + 1 = own) nx H H') (hn : nx ≤ nx') (hc0 : H'.c b8 0 = some (.int .i64 e.id)) (hc : H'.c b8 1 = some v') (hs : SlA nx' H' 7 v' P'.length (ptCells P') own') (ho : own' = own ∨ nx < own') : TeI lo nx0 H0 p col0 b6 b8 e P' H' nx' y col v' own' := by
  have hle := h.st.le
  have h8 := h.g8
  have hl6 := h.l6
  have hl8 := h.l8
  have how := h.ow
  have ho6 := h.o6
  have ho8 := h.o8
  have hne := h.ne
  have hz : ∀ b, (b = b8 ∨ b + 1 = own) → col b = 0 := fun b hb => by
    rcases hb with hb | hb
    · rw [hb]; exact h.k8
    · exact h.ko b hb
  refine ⟨h.st.step (hk.mono (Nat.le_refl _) (fun b _ hb => .inr (by omega))) hn (h.st.a.kp' (nx' := nx') hk hn (fun b hb hs => hb (hz b hs))) (fun b hb => .inl hb), h.g6, by omega, h.k6, ?_, ?_, h.g8, by omega, h.k8, hc0, hc, h.ne, hs, by omega, by omega, by omega, fun b hb => ?_⟩
  · rw [hk.cell b6 0 h.l6 (by omega)]; exact h.c60
  · rw [hk.cell b6 1 h.l6 (by omega)]; exact h.c61
  · rcases ho with ho | ho
    · exact h.ko b (by omega)
    · refine Classical.byContradiction fun hc => ?_
      have := h.st.a.k.rng b hc
      omega
end
def lostPt (e : Eng) (l : List (Int × Int)) : List Prt := (l.filter fun a => !e.sel.any fun x => samePx x a.1 a.2).map fun a => ⟨3, 0, e.id, a.1, a.2, 0, 65535⟩
theorem lostPt_snoc (e : Eng) (l : List (Int × Int)) (a : Int × Int) : lostPt e (l ++ [a]) = lostPt e l ++ (if e.sel.any (fun x => samePx x a.1 a.2) = true then [] else [⟨3, 0, e.id, a.1, a.2, 0, 65535⟩]) := by
  unfold lostPt
  rw [List.filter_append, List.map_append]
  congr 1
  cases h : e.sel.any (fun x => samePx x a.1 a.2) <;> simp [h]
structure TLI (lo nx0 : Nat) (H0 : AH) (p : Nat) (col0 : Nat → Nat) (b6 b8 : Nat) (e : Eng) (P0 : List Prt) (now : Int) (sv v7 : Value) (m : Nat) (env : Env) (H : AH) (nx i : Nat) (y : ELay) (col : Nat → Nat) (v : Value) (own : Nat) : Prop where
  hm : m = e.lost.length - i
  hi : i ≤ e.lost.length
  henv : env = [(0, .pointer (some ⟨p, 0, none⟩)), (2, sv), (6, .pointer (some ⟨b6, 0, none⟩)), (8, .pointer (some ⟨b8, 0, none⟩)), (84, v7), (85, .int .i64 e.lost.length), (86, .int .i64 i)]
  a : TeI lo nx0 H0 p col0 b6 b8 e (P0 ++ lostPt e (e.lost.take i)) H nx y col v own
  hv : y.v7 = v7
noncomputable def teL2 : Code := codeAt [.T, .T, .T, .T, .H, .T, .C, .H, .T, .I] ((Tryz.f28.body).getD .skip)
set_option maxHeartbeats 4000000 in
set_option maxRecDepth 20000 in
theorem te_lost {lo nx0 : Nat} {H0 : AH} {p : Nat} {col0 : Nat → Nat} {b6 b8 : Nat} {e : Eng} {P0 : List Prt} {H1 : AH} {nx1 : Nat} {y1 : ELay} {c1 : Nat → Nat} {v1 : Value} {o1 : Nat} {now : Int} {sv v7 : Value} {K0 : Env → AH → Nat → Prop} {Q : Exit → Env → AH → Nat → Prop}
    (hv1 : y1.v7 = v7) (h1 : TeI lo nx0 H0 p col0 b6 b8 e P0 H1 nx1 y1 c1 v1 o1) (hP : P0.length ≤ 1000000) (hll : e.lost.length ≤ 1000000) (hsl : e.sel.length ≤ 1000000) (hlo0 : lo ≤ nx0)
    (hK : ∀ H nx y col v own, TeI lo nx0 H0 p col0 b6 b8 e (P0 ++ lostPt e e.lost) H nx y col v own → K0 [(0, .pointer (some ⟨p, 0, none⟩)), (2, sv), (6, .pointer (some ⟨b6, 0, none⟩)), (8, .pointer (some ⟨b8, 0, none⟩)), (84, v7), (85, .int .i64 e.lost.length), (86, .int .i64 e.lost.length), (87, .bool false)] H nx) :
    awp Tryz.prog lo L28 teL2 (blockQ 2 (thenQ K0 Q)) [(0, .pointer (some ⟨p, 0, none⟩)), (2, sv), (6, .pointer (some ⟨b6, 0, none⟩)), (8, .pointer (some ⟨b8, 0, none⟩)), (84, v7), (85, .int .i64 e.lost.length), (86, .int .i64 (0 : Nat))] H1 nx1 := by
  have hcode : teL2 = codeAt [.T, .T, .T, .T, .H, .T, .C, .H, .T, .I] ((Tryz.f28.body).getD .skip) := rfl
  simp only [Tryz.f28, Option.getD_some, codeAt_H, codeAt_T, codeAt_I, codeAt_L, codeAt_C, codeAt_P, codeAt_nil] at hcode
  rw [hcode]
  clear hcode
  refine awp_loop (fun m env H nx => ∃ i y col v own, TLI lo nx0 H0 p col0 b6 b8 e P0 now sv v7 m env H nx i y col v own) e.lost.length ⟨0, y1, c1, v1, o1, ⟨by omega, by omega, rfl, by simpa [lostPt] using h1, hv1⟩⟩ (fun m env H nx ⟨i, y, col, v, own, hI⟩ hn => ?_)
  obtain ⟨hm, hi, henv, hA, hv7⟩ := hI
  subst henv
  have hs := hA.st.a.s7
  rw [hv7] at hs
  obtain ⟨aa, ac, rfl⟩ := hs.form
  by_cases hlt : i < e.lost.length
  · obtain ⟨g, off, cap, hv, hgo⟩ := hs.open (by omega)
    simp only [Value.slice.injEq, true_and] at hv
    obtain ⟨rfl, rfl⟩ := hv
    have hx0 : e.lost[i]? = some e.lost[i] := List.getElem?_eq_getElem hlt
    have hld := px_load hs hx0
    have htk : e.lost.take (i + 1) = e.lost.take i ++ [e.lost[i]] := by rw [List.take_succ_eq_append_getElem hlt]
    generalize e.lost[i] = a at hld hx0 htk
    unfold pxL at hld
    have hlo : lo ≤ nx := by have := hA.st.le; omega
    have hl8 := hA.l8
    have c0 := hA.st.a.c.c0
    have c5 := hA.st.a.c.c5
    have h5o := hA.st.a.s5.one
    have hpn := hA.st.a.k.lt hA.st.a.k.kp (by omega)
    have c80 := hA.c80
    have c81 := hA.c81
    have hov := hA.sl.one
    have hcast : ((i : Int) + 1) = ((i + 1 : Nat) : Int) := by omega
    simp (disch := omega) only [go_sem, ↓reduceIte , hld]
    intro d hd
    have kd : Kp (fun _ => False) nx H ((H.new d #[.int .u32 0, .int .u8 0] 30).put d 0 (.int .u32 a.1) |>.put d 1 (.int .u8 a.2)) := (by repeat first | exact Kp.refl _ _ _ | refine Kp.dropT ?_ (.inl (by omega)) | refine Kp.put ?_ (.inl (by omega)) | refine Kp.new ?_ (by omega) | refine Kp.put ?_ (.inr (by omega)) | refine Kp.newO ?_ (by omega) | refine Kp.setO ?_ (.inl (by omega)) | refine Kp.setO ?_ (.inr (by omega)) | refine Kp.trans0 ?_ (by assumption) (by omega) | refine Kp.transS ?_ (by assumption) (by omega) (fun b hb hT => by first | omega | (dsimp only at hT ⊢; omega) | (simp only at hT ⊢; omega))) 
    have hA1 := hA.still kd (show nx ≤ d + 1 by omega)
    simp (disch := omega) only [go_sem, ↓reduceIte ]
    refine awp_draw ord28x16 (by kernel_rfl) ?_
    simp (disch := omega) only [go_sem, ↓reduceIte , ord28x16, c5, h5o]
    refine (ehas_c hA1.st.a.s5 hsl a.1 a.2).mono fun r H2 nx2 _ ⟨hr, hx2, hk2⟩ => ?_
    subst hr
    have hA2 := hA1.still hk2 hx2
    have sn := lostPt_snoc e (e.lost.take i) a
    rw [← htk] at sn
    cases hh : e.sel.any (fun x => samePx x a.1 a.2) with
    | true =>
      rw [hh, if_pos rfl, List.append_nil] at sn
      simp (disch := omega) only [go_sem, ↓reduceIte , ord28x16, hcast]
      exact ⟨dkeep_kp hk2, e.lost.length - (i + 1), by omega, i + 1, y, col, v, own, ⟨rfl, by omega, rfl, by rw [sn]; exact hA2, hv7⟩⟩
    | false =>
      rw [hh, if_neg (by simp)] at sn
      have c812 := hA2.c81
      have c02 := hA2.st.a.c.c0
      have cd0 : H2.c d 0 = some (.int .u32 a.1) := by rw [hk2.cell0 d _ (by omega)]; simp (disch := omega) only [go_sem, ↓reduceIte ]
      have cd1 : H2.c d 1 = some (.int .u8 a.2) := by rw [hk2.cell0 d _ (by omega)]; simp (disch := omega) only [go_sem, ↓reduceIte ]
      simp (disch := omega) only [go_sem, ↓reduceIte , ord28x16]
      refine ⟨dkeep_kp hk2, ?_⟩
      refine awp_draw ord28x17 (by kernel_rfl) ?_
      simp (disch := omega) only [go_sem, ↓reduceIte , ord28x17, c812, c02, cd0, cd1, hov]
      have hlp : (lostPt e (e.lost.take i)).length ≤ e.lost.length := by
        unfold lostPt
        rw [List.length_map]
        have := List.length_filter_le (fun a : Int × Int => !e.sel.any fun x => samePx x a.1 a.2) (e.lost.take i)
        rw [List.length_take] at this
        omega
      have hPl : (P0 ++ lostPt e (e.lost.take i)).length ≤ 2000000 := by rw [List.length_append]; omega
      refine buildSQ_all (n := 1) [.agg #[.int .u8 3, .int .u64 0, .int .i64 e.id, .int .u32 a.1, .int .u8 a.2, .int .u16 0, .int .u16 65535]] sl34 zero32 (by omega) (by omega) rfl (by simp [cells_agg]) fun f hf => ?_
      have hlit := pt_lit H2 f 32 ⟨3, 0, e.id, a.1, a.2, 0, 65535⟩
      have how := hA2.ow
      have hs6 := hA2.sl.new (vs := ([Value.agg #[.int .u8 3, .int .u64 0, .int .i64 e.id, .int .u32 a.1, .int .u8 a.2, .int .u16 0, .int .u16 65535]].flatMap fun v => v.cells.toList).toArray) (e := 32) hf
      simp (disch := omega) only [go_sem, ↓reduceIte ]
      refine ⟨dkeep_kp (by repeat first | exact Kp.refl _ _ _ | refine Kp.dropT ?_ (.inl (by omega)) | refine Kp.put ?_ (.inl (by omega)) | refine Kp.new ?_ (by omega) | refine Kp.put ?_ (.inr (by omega)) | refine Kp.newO ?_ (by omega) | refine Kp.setO ?_ (.inl (by omega)) | refine Kp.setO ?_ (.inr (by omega)) | refine Kp.trans0 ?_ (by assumption) (by omega) | refine Kp.transS ?_ (by assumption) (by omega) (fun b hb hT => by first | omega | (dsimp only at hT ⊢; omega) | (simp only at hT ⊢; omega))) , ?_⟩
      refine appendQ_two (aw_append sl34 zero32 rfl by32 hs6 (hlit.src sl34 ptCells_one) (by simp only [maxLen]; omega) (by omega) (by omega) fun v7' H7 nx7 own7 hn7 hs7 ho7 hk7 _ => ?_)
      have hone7 := hs7.one
      have ho8 := hA2.o8
      have hl82 := hA2.l8
      have c87 : H7.c b8 1 = some v := by rw [hk7.cell b8 1 (by omega) (by omega)]; simp (disch := omega) only [go_sem, ↓reduceIte , c812]
      have c807 : H7.c b8 0 = some (.int .i64 e.id) := by rw [hk7.cell b8 0 (by omega) (by omega)]; simp (disch := omega) only [go_sem, ↓reduceIte , hA2.c80]
      have hnl := hA2.g8
      have hlo8 : lo ≤ b8 := by omega
      simp (disch := omega) only [go_sem, ↓reduceIte , hone7, c87]
      refine ⟨dkeep_last (by kernel_rfl), dkeep_last (by kernel_rfl), ?_⟩
      have k27 : Kp (fun b => b = b8 ∨ b + 1 = own) nx2 H2 (H7.put b8 1 v7') := (by repeat first | exact Kp.refl _ _ _ | refine Kp.dropT ?_ (.inl (by omega)) | refine Kp.put ?_ (.inl (by omega)) | refine Kp.new ?_ (by omega) | refine Kp.put ?_ (.inr (by omega)) | refine Kp.newO ?_ (by omega) | refine Kp.setO ?_ (.inl (by omega)) | refine Kp.setO ?_ (.inr (by omega)) | refine Kp.trans0 ?_ (by assumption) (by omega) | refine Kp.transS ?_ (by assumption) (by omega) (fun b hb hT => by first | omega | (dsimp only at hT ⊢; omega) | (simp only at hT ⊢; omega))) 
      have hfin := hA2.push (P' := (P0 ++ lostPt e (e.lost.take i)) ++ [⟨3, 0, e.id, a.1, a.2, 0, 65535⟩]) (v' := v7') (own' := own7) (nx' := nx7) k27 (by omega) (by simp (disch := omega) only [go_sem, ↓reduceIte , c807]) (by simp (disch := omega) only [go_sem, ↓reduceIte ]) (by
        rw [List.length_append, ptCells_append]
        exact hs7.put (by omega)) (by omega)
      rw [hcast]
      refine ⟨e.lost.length - (i + 1), by omega, i + 1, y, col, v7', own7, ⟨rfl, by omega, rfl, ?_, hv7⟩⟩
      rw [sn, ← List.append_assoc]
      exact hfin
  · have ei : i = e.lost.length := by omega
    subst ei
    rw [List.take_length] at hA
    simp (disch := omega) only [go_sem, ↓reduceIte ]
    exact hK _ _ _ _ _ _ hA
end Go.Proofs.YtngnbafididkcaaGreat
end
section
namespace Go.Proofs.YtngnbafididkcaaGreat
open Go.RowKit
set_option linter.unusedSimpArgs false

def selPt (e : Eng) (may : Rt → Bool) (l : List Rt) : List Prt := l.map fun r => ⟨3, 0, e.id, r.addr, r.len, r.seq, if may r = true then r.metric else 65535⟩
structure TSI (lo nx0 : Nat) (H0 : AH) (p : Nat) (col0 : Nat → Nat) (b6 b8 : Nat) (e : Eng) (may : Rt → Bool) (P0 : List Prt) (sv v5 : Value) (m : Nat) (env : Env) (H : AH) (nx i : Nat) (y : ELay) (col : Nat → Nat) (v : Value) (own : Nat) : Prop where
  hm : m = e.sel.length - i
  hi : i ≤ e.sel.length
  henv : env = [(0, .pointer (some ⟨p, 0, none⟩)), (2, sv), (6, .pointer (some ⟨b6, 0, none⟩)), (8, .pointer (some ⟨b8, 0, none⟩)), (112, v5), (113, .int .i64 e.sel.length), (114, .int .i64 i)]
  a : TeI lo nx0 H0 p col0 b6 b8 e (P0 ++ selPt e may (e.sel.take i)) H nx y col v own
  hv : y.v5 = v5
noncomputable def teL3 : Code := codeAt [.T, .T, .T, .T, .H, .T, .C, .T, .H, .T, .I] ((Tryz.f28.body).getD .skip)
set_option maxHeartbeats 4000000 in
set_option maxRecDepth 20000 in
theorem te_sel {lo nx0 : Nat} {H0 : AH} {p : Nat} {col0 : Nat → Nat} {b6 b8 : Nat} {e : Eng} {may : Rt → Bool} {P0 : List Prt} {H1 : AH} {nx1 : Nat} {y1 : ELay} {c1 : Nat → Nat} {v1 : Value} {o1 : Nat} {sv v5 : Value} {K0 : Env → AH → Nat → Prop} {Q : Exit → Env → AH → Nat → Prop}
    (hv1 : y1.v5 = v5) (h1 : TeI lo nx0 H0 p col0 b6 b8 e P0 H1 nx1 y1 c1 v1 o1) (hP : P0.length ≤ 2000000) (hsl : e.sel.length ≤ 1000000) (hlo0 : lo ≤ nx0)
    (hmay : ∀ r ∈ e.sel, ∀ (H' : AH) (nx' : Nat), nx0 ≤ nx' → Kp (fun b => col0 b ≠ 0) nx0 H0 H' → ACalls Tryz.prog lo 64 #[.agg r.cells.toArray, sv] H' nx' (fun w H2 nx2 => w = .bool (may r) ∧ nx' ≤ nx2 ∧ Kp (fun _ => False) nx' H' H2))
    (hK : ∀ H nx y col v own, TeI lo nx0 H0 p col0 b6 b8 e (P0 ++ selPt e may e.sel) H nx y col v own → K0 [(0, .pointer (some ⟨p, 0, none⟩)), (2, sv), (6, .pointer (some ⟨b6, 0, none⟩)), (8, .pointer (some ⟨b8, 0, none⟩)), (112, v5), (113, .int .i64 e.sel.length), (114, .int .i64 e.sel.length), (115, .bool false)] H nx) :
    awp Tryz.prog lo L28 teL3 (blockQ 4 (thenQ K0 Q)) [(0, .pointer (some ⟨p, 0, none⟩)), (2, sv), (6, .pointer (some ⟨b6, 0, none⟩)), (8, .pointer (some ⟨b8, 0, none⟩)), (112, v5), (113, .int .i64 e.sel.length), (114, .int .i64 (0 : Nat))] H1 nx1 := by
  have hcode : teL3 = codeAt [.T, .T, .T, .T, .H, .T, .C, .T, .H, .T, .I] ((Tryz.f28.body).getD .skip) := rfl
  simp only [Tryz.f28, Option.getD_some, codeAt_H, codeAt_T, codeAt_I, codeAt_L, codeAt_C, codeAt_P, codeAt_nil] at hcode
  rw [hcode]
  clear hcode
  refine awp_loop (fun m env H nx => ∃ i y col v own, TSI lo nx0 H0 p col0 b6 b8 e may P0 sv v5 m env H nx i y col v own) e.sel.length ⟨0, y1, c1, v1, o1, ⟨by omega, by omega, rfl, by simpa [selPt] using h1, hv1⟩⟩ (fun m env H nx ⟨i, y, col, v, own, hI⟩ hn => ?_)
  obtain ⟨hm, hi, henv, hA, hv7⟩ := hI
  subst henv
  have hs := hA.st.a.s5
  rw [hv7] at hs
  obtain ⟨aa, ac, rfl⟩ := hs.form
  by_cases hlt : i < e.sel.length
  · obtain ⟨g, off, cap, hv, hgo⟩ := hs.open (by omega)
    simp only [Value.slice.injEq, true_and] at hv
    obtain ⟨rfl, rfl⟩ := hv
    have hx0 : e.sel[i]? = some e.sel[i] := List.getElem?_eq_getElem hlt
    have hld := rt_load hs hx0
    have htk : e.sel.take (i + 1) = e.sel.take i ++ [e.sel[i]] := by rw [List.take_succ_eq_append_getElem hlt]
    have hmy := hmay e.sel[i] (List.getElem_mem hlt)
    generalize e.sel[i] = x at hld hx0 htk hmy
    unfold Rt.cells at hld hmy
    have hlo : lo ≤ nx := by have := hA.st.le; omega
    have hnx0 := hA.st.le
    have hl8 := hA.l8
    have hov := hA.sl.one
    have hcast : ((i : Int) + 1) = ((i + 1 : Nat) : Int) := by omega
    have hPl : (P0 ++ selPt e may (e.sel.take i)).length ≤ 4000000 := by
      rw [List.length_append]
      unfold selPt
      rw [List.length_map, List.length_take]
      omega
    simp (disch := omega) only [go_sem, ↓reduceIte , hld]
    intro d hd
    have kd : Kp (fun _ => False) nx H (((((H.new d #[.int .u32 0, .int .u8 0, .int .i64 0, .int .u16 0, .int .u16 0] 40).put d 0 (.int .u32 x.addr)).put d 1 (.int .u8 x.len)).put d (1 + 1) (.int .i64 x.via)).put d (1 + 1 + 1) (.int .u16 x.metric) |>.put d (1 + 1 + 1 + 1) (.int .u16 x.seq)) := (by repeat first | exact Kp.refl _ _ _ | refine Kp.dropT ?_ (.inl (by omega)) | refine Kp.put ?_ (.inl (by omega)) | refine Kp.new ?_ (by omega) | refine Kp.put ?_ (.inr (by omega)) | refine Kp.newO ?_ (by omega) | refine Kp.setO ?_ (.inl (by omega)) | refine Kp.setO ?_ (.inr (by omega)) | refine Kp.trans0 ?_ (by assumption) (by omega) | refine Kp.transS ?_ (by assumption) (by omega) (fun b hb hT => by first | omega | (dsimp only at hT ⊢; omega) | (simp only at hT ⊢; omega))) 
    have hA1 := hA.still kd (show nx ≤ d + 1 by omega)
    simp (disch := omega) only [go_sem, ↓reduceIte ]
    refine (hmy _ (d + 1) (by omega) hA1.st.kp).mono fun w H3 nx3 _ ⟨hw, hx3, hk3⟩ => ?_
    subst hw
    have hA3 := hA1.still hk3 hx3
    have c812 := hA3.c81
    have c02 := hA3.st.a.c.c0
    have cd0 : H3.c d 0 = some (.int .u32 x.addr) := by rw [hk3.cell0 d _ (by omega)]; simp (disch := omega) only [go_sem, ↓reduceIte ]
    have cd1 : H3.c d 1 = some (.int .u8 x.len) := by rw [hk3.cell0 d _ (by omega)]; simp (disch := omega) only [go_sem, ↓reduceIte ]
    have cd4 : H3.c d 4 = some (.int .u16 x.seq) := by rw [hk3.cell0 d _ (by omega)]; simp (disch := omega) only [go_sem, ↓reduceIte ]
    have hpn := hA3.st.a.k.lt hA3.st.a.k.kp (by omega)
    have fin : ∀ (mm : Int), (if may x = true then x.metric else 65535) = mm → ∀ (H7 : AH) (nx7 : Nat) (v7' : Value) (own7 : Nat), TeI lo nx0 H0 p col0 b6 b8 e ((P0 ++ selPt e may (e.sel.take i)) ++ [⟨3, 0, e.id, x.addr, x.len, x.seq, mm⟩]) H7 nx7 y col v7' own7 →
        ∃ m', m' < m ∧ ∃ j y col v own, TSI lo nx0 H0 p col0 b6 b8 e may P0 sv (.slice (some ⟨g, off, none⟩) e.sel.length ac) m' [(0, .pointer (some ⟨p, 0, none⟩)), (2, sv), (6, .pointer (some ⟨b6, 0, none⟩)), (8, .pointer (some ⟨b8, 0, none⟩)), (112, .slice (some ⟨g, off, none⟩) e.sel.length ac), (113, .int .i64 e.sel.length), (114, .int .i64 ((i + 1 : Nat) : Int))] H7 nx7 j y col v own := fun mm hmm H7 nx7 v7' own7 h => by
      refine ⟨e.sel.length - (i + 1), by omega, i + 1, y, col, v7', own7, ⟨rfl, by omega, rfl, ?_, hv7⟩⟩
      rw [htk]
      unfold selPt
      rw [List.map_append, ← List.append_assoc]
      show TeI _ _ _ _ _ _ _ _ (P0 ++ _ ++ [⟨3, 0, e.id, x.addr, x.len, x.seq, if may x = true then x.metric else 65535⟩]) _ _ _ _ _ _
      rw [hmm]
      exact h
    cases hmx : may x with
    | true =>
      have f1 := fin x.metric (by rw [hmx]; rfl)
      simp (disch := omega) only [go_sem, ↓reduceIte ]
      refine awp_draw ord28x25 (by kernel_rfl) ?_
      simp (disch := omega) only [go_sem, ↓reduceIte , ord28x25, c812, c02, cd0, cd1, cd4, hov]
      refine buildSQ_all (n := 1) [.agg #[.int .u8 3, .int .u64 0, .int .i64 e.id, .int .u32 x.addr, .int .u8 x.len, .int .u16 x.seq, .int .u16 x.metric]] sl34 zero32 (by omega) (by omega) rfl (by simp [cells_agg]) fun f hf => ?_
      have hlit := pt_lit H3 f 32 ⟨3, 0, e.id, x.addr, x.len, x.seq, x.metric⟩
      have how := hA3.ow
      have hs6 := hA3.sl.new (vs := ([Value.agg #[.int .u8 3, .int .u64 0, .int .i64 e.id, .int .u32 x.addr, .int .u8 x.len, .int .u16 x.seq, .int .u16 x.metric]].flatMap fun v => v.cells.toList).toArray) (e := 32) hf
      simp (disch := omega) only [go_sem, ↓reduceIte ]
      refine ⟨dkeep_kp (by repeat first | exact Kp.refl _ _ _ | refine Kp.dropT ?_ (.inl (by omega)) | refine Kp.put ?_ (.inl (by omega)) | refine Kp.new ?_ (by omega) | refine Kp.put ?_ (.inr (by omega)) | refine Kp.newO ?_ (by omega) | refine Kp.setO ?_ (.inl (by omega)) | refine Kp.setO ?_ (.inr (by omega)) | refine Kp.trans0 ?_ (by assumption) (by omega) | refine Kp.transS ?_ (by assumption) (by omega) (fun b hb hT => by first | omega | (dsimp only at hT ⊢; omega) | (simp only at hT ⊢; omega))) , ?_⟩
      refine appendQ_two (aw_append sl34 zero32 rfl by32 hs6 (hlit.src sl34 ptCells_one) (by simp only [maxLen]; omega) (by omega) (by omega) fun v7' H7 nx7 own7 hn7 hs7 ho7 hk7 _ => ?_)
      have hone7 := hs7.one
      have ho8 := hA3.o8
      have hl82 := hA3.l8
      have c87 : H7.c b8 1 = some v := by rw [hk7.cell b8 1 (by omega) (by omega)]; simp (disch := omega) only [go_sem, ↓reduceIte , c812]
      have c807 : H7.c b8 0 = some (.int .i64 e.id) := by rw [hk7.cell b8 0 (by omega) (by omega)]; simp (disch := omega) only [go_sem, ↓reduceIte , hA3.c80]
      have hnl := hA3.g8
      have hlo8 : lo ≤ b8 := by omega
      simp (disch := omega) only [go_sem, ↓reduceIte , hone7, c87]
      refine ⟨dkeep_last (by kernel_rfl), dkeep_last (by kernel_rfl), ?_⟩
      have k27 : Kp (fun b => b = b8 ∨ b + 1 = own) nx3 H3 (H7.put b8 1 v7') := (by repeat first | exact Kp.refl _ _ _ | refine Kp.dropT ?_ (.inl (by omega)) | refine Kp.put ?_ (.inl (by omega)) | refine Kp.new ?_ (by omega) | refine Kp.put ?_ (.inr (by omega)) | refine Kp.newO ?_ (by omega) | refine Kp.setO ?_ (.inl (by omega)) | refine Kp.setO ?_ (.inr (by omega)) | refine Kp.trans0 ?_ (by assumption) (by omega) | refine Kp.transS ?_ (by assumption) (by omega) (fun b hb hT => by first | omega | (dsimp only at hT ⊢; omega) | (simp only at hT ⊢; omega))) 
      have hfin := hA3.push (P' := (P0 ++ selPt e may (e.sel.take i)) ++ [⟨3, 0, e.id, x.addr, x.len, x.seq, x.metric⟩]) (v' := v7') (own' := own7) (nx' := nx7) k27 (by omega) (by simp (disch := omega) only [go_sem, ↓reduceIte , c807]) (by simp (disch := omega) only [go_sem, ↓reduceIte ]) (by
        rw [List.length_append, ptCells_append]
        exact hs7.put (by omega)) (by omega)
      rw [hcast]
      exact f1 _ _ _ _ hfin
    | false =>
      have f1 := fin 65535 (by rw [hmx]; rfl)
      simp (disch := omega) only [go_sem, ↓reduceIte ]
      refine awp_draw ord28x25 (by kernel_rfl) ?_
      simp (disch := omega) only [go_sem, ↓reduceIte , ord28x25, c812, c02, cd0, cd1, cd4, hov]
      refine buildSQ_all (n := 1) [.agg #[.int .u8 3, .int .u64 0, .int .i64 e.id, .int .u32 x.addr, .int .u8 x.len, .int .u16 x.seq, .int .u16 65535]] sl34 zero32 (by omega) (by omega) rfl (by simp [cells_agg]) fun f hf => ?_
      have hlit := pt_lit H3 f 32 ⟨3, 0, e.id, x.addr, x.len, x.seq, 65535⟩
      have how := hA3.ow
      have hs6 := hA3.sl.new (vs := ([Value.agg #[.int .u8 3, .int .u64 0, .int .i64 e.id, .int .u32 x.addr, .int .u8 x.len, .int .u16 x.seq, .int .u16 65535]].flatMap fun v => v.cells.toList).toArray) (e := 32) hf
      simp (disch := omega) only [go_sem, ↓reduceIte ]
      refine ⟨dkeep_kp (by repeat first | exact Kp.refl _ _ _ | refine Kp.dropT ?_ (.inl (by omega)) | refine Kp.put ?_ (.inl (by omega)) | refine Kp.new ?_ (by omega) | refine Kp.put ?_ (.inr (by omega)) | refine Kp.newO ?_ (by omega) | refine Kp.setO ?_ (.inl (by omega)) | refine Kp.setO ?_ (.inr (by omega)) | refine Kp.trans0 ?_ (by assumption) (by omega) | refine Kp.transS ?_ (by assumption) (by omega) (fun b hb hT => by first | omega | (dsimp only at hT ⊢; omega) | (simp only at hT ⊢; omega))) , ?_⟩
      refine appendQ_two (aw_append sl34 zero32 rfl by32 hs6 (hlit.src sl34 ptCells_one) (by simp only [maxLen]; omega) (by omega) (by omega) fun v7' H7 nx7 own7 hn7 hs7 ho7 hk7 _ => ?_)
      have hone7 := hs7.one
      have ho8 := hA3.o8
      have hl82 := hA3.l8
      have c87 : H7.c b8 1 = some v := by rw [hk7.cell b8 1 (by omega) (by omega)]; simp (disch := omega) only [go_sem, ↓reduceIte , c812]
      have c807 : H7.c b8 0 = some (.int .i64 e.id) := by rw [hk7.cell b8 0 (by omega) (by omega)]; simp (disch := omega) only [go_sem, ↓reduceIte , hA3.c80]
      have hnl := hA3.g8
      have hlo8 : lo ≤ b8 := by omega
      simp (disch := omega) only [go_sem, ↓reduceIte , hone7, c87]
      refine ⟨dkeep_last (by kernel_rfl), dkeep_last (by kernel_rfl), ?_⟩
      have k27 : Kp (fun b => b = b8 ∨ b + 1 = own) nx3 H3 (H7.put b8 1 v7') := (by repeat first | exact Kp.refl _ _ _ | refine Kp.dropT ?_ (.inl (by omega)) | refine Kp.put ?_ (.inl (by omega)) | refine Kp.new ?_ (by omega) | refine Kp.put ?_ (.inr (by omega)) | refine Kp.newO ?_ (by omega) | refine Kp.setO ?_ (.inl (by omega)) | refine Kp.setO ?_ (.inr (by omega)) | refine Kp.trans0 ?_ (by assumption) (by omega) | refine Kp.transS ?_ (by assumption) (by omega) (fun b hb hT => by first | omega | (dsimp only at hT ⊢; omega) | (simp only at hT ⊢; omega))) 
      have hfin := hA3.push (P' := (P0 ++ selPt e may (e.sel.take i)) ++ [⟨3, 0, e.id, x.addr, x.len, x.seq, 65535⟩]) (v' := v7') (own' := own7) (nx' := nx7) k27 (by omega) (by simp (disch := omega) only [go_sem, ↓reduceIte , c807]) (by simp (disch := omega) only [go_sem, ↓reduceIte ]) (by
        rw [List.length_append, ptCells_append]
        exact hs7.put (by omega)) (by omega)
      rw [hcast]
      exact f1 _ _ _ _ hfin
  · have ei : i = e.sel.length := by omega
    subst ei
    rw [List.take_length] at hA
    simp (disch := omega) only [go_sem, ↓reduceIte ]
    exact hK _ _ _ _ _ _ hA
end Go.Proofs.YtngnbafididkcaaGreat
end
section
namespace Go.Proofs.YtngnbafididkcaaGreat
open Go.RowKit
set_option linter.unusedSimpArgs false

noncomputable def teT5 : Code := codeAt [.T, .T, .T, .T, .T] ((Tryz.f28.body).getD .skip)
set_option maxHeartbeats 4000000 in
set_option maxRecDepth 20000 in
theorem te_end {lo nx0 : Nat} {H0 : AH} {p : Nat} {col0 : Nat → Nat} {b6 b8 : Nat} {e : Eng} {P : List Prt} {H : AH} {nx : Nat} {y : ELay} {col : Nat → Nat} {v : Value} {own : Nat} {R : Value → AH → Nat → Prop} {rest : Env}
    (h : TeI lo nx0 H0 p col0 b6 b8 e P H nx y col v own) (hP : P.length ≤ 4000000) (hal : e.asks.length ≤ 1000000) (hlo0 : lo ≤ nx0)
    (hR : ∀ H' nx' y' col' v' own', EngS lo nx0 H0 p col0 { e with asks := [] } H' nx' y' col' → SlA nx' H' 7 v' (P ++ e.asks).length (ptCells (P ++ e.asks)) own' → (own' = 0 ∨ nx0 < own') → (∀ b, b + 1 = own' → col' b = 0) → R (.tuple #[.agg #[.int .i64 e.id, v'], .bool (decide (0 < ((P ++ e.asks).length : Int)))]) H' nx') :
    awp Tryz.prog lo L28 teT5 (retQ Tryz.prog Tryz.f28 R) ((0, .pointer (some ⟨p, 0, none⟩)) :: (6, .pointer (some ⟨b6, 0, none⟩)) :: (8, .pointer (some ⟨b8, 0, none⟩)) :: rest) H nx := by
  have hcode : teT5 = codeAt [.T, .T, .T, .T, .T] ((Tryz.f28.body).getD .skip) := rfl
  simp only [Tryz.f28, Option.getD_some, codeAt_H, codeAt_T, codeAt_I, codeAt_L, codeAt_C, codeAt_P, codeAt_nil] at hcode
  rw [hcode]
  clear hcode
  have hlo : lo ≤ nx := by have := h.st.le; omega
  have hle := h.st.le
  have c81 := h.c81
  have c88 : H.c p (7 + 1) = some y.v8 := h.st.a.c.c8
  have hov := h.sl.one
  have ho8 := h.st.a.s8.one
  have hpn := h.st.a.k.lt h.st.a.k.kp (by omega)
  have hl8 := h.l8
  have hl6 := h.l6
  simp (disch := omega) only [go_sem, ↓reduceIte ]
  refine awp_draw ord28x28 (by kernel_rfl) ?_
  simp (disch := omega) only [go_sem, ↓reduceIte , ord28x28, c81, c88, hov, ho8]
  have how := h.ow
  refine appendQ_two (aw_append sl34 zero32 rfl by32 h.sl (h.st.a.s8.src sl34 ptCells_one) (by simp only [maxLen]; omega) (by omega) (by omega) fun v7 H7 nx7 own7 hn7 hs7 ho7 hk7 _ => ?_)
  have hone7 := hs7.one
  have hb8 := h.o8
  have hnl := h.g8
  have hlo8 : lo ≤ b8 := by omega
  have hlop := hpn.1
  have c87 : H7.c b8 1 = some v := by rw [hk7.cell b8 1 (by omega) (by omega)]; exact c81
  have c807 : H7.c b8 0 = some (.int .i64 e.id) := by rw [hk7.cell b8 0 (by omega) (by omega)]; exact h.c80
  have hpo : p + 1 ≠ own := fun hc => by
    have := h.ko p hc
    have := h.st.a.k.kp
    omega
  have hp8 : p ≠ b8 := fun hc => by
    have h1 := h.k8
    rw [← hc, h.st.a.k.kp] at h1
    omega
  have c887 : H7.c p (7 + 1) = some y.v8 := by rw [hk7.cell p _ (by omega) hpo]; exact c88
  have k27 : Kp (fun b => b = b8 ∨ b + 1 = own) nx H (H7.put b8 1 v7) := (by repeat first | exact Kp.refl _ _ _ | refine Kp.dropT ?_ (.inl (by omega)) | refine Kp.put ?_ (.inl (by omega)) | refine Kp.new ?_ (by omega) | refine Kp.put ?_ (.inr (by omega)) | refine Kp.newO ?_ (by omega) | refine Kp.setO ?_ (.inl (by omega)) | refine Kp.setO ?_ (.inr (by omega)) | refine Kp.trans0 ?_ (by assumption) (by omega) | refine Kp.transS ?_ (by assumption) (by omega) (fun b hb hT => by first | omega | (dsimp only at hT ⊢; omega) | (simp only at hT ⊢; omega))) 
  have h2 := h.push (P' := P ++ e.asks) (v' := v7) (own' := own7) (nx' := nx7) k27 (by omega) (by simp (disch := omega) only [go_sem, ↓reduceIte , c807]) (by simp (disch := omega) only [go_sem, ↓reduceIte ]) (by
    rw [List.length_append, ptCells_append]
    exact hs7.put (by omega)) (by omega)
  have k3 : Kp (fun b => b = p) nx7 (H7.put b8 1 v7) ((H7.put b8 1 v7).put p (7 + 1) (.slice none 0 0)) := (by repeat first | exact Kp.refl _ _ _ | refine Kp.dropT ?_ (.inl (by omega)) | refine Kp.put ?_ (.inl (by omega)) | refine Kp.new ?_ (by omega) | refine Kp.put ?_ (.inr (by omega)) | refine Kp.newO ?_ (by omega) | refine Kp.setO ?_ (.inl (by omega)) | refine Kp.setO ?_ (.inr (by omega)) | refine Kp.trans0 ?_ (by assumption) (by omega) | refine Kp.transS ?_ (by assumption) (by omega) (fun b hb hT => by first | omega | (dsimp only at hT ⊢; omega) | (simp only at hT ⊢; omega))) 
  have hEC : EngC ((H7.put b8 1 v7).put p (7 + 1) (.slice none 0 0)) p { e with asks := [] } { y with v8 := .slice none 0 0, o8 := 0 } := by
    obtain ⟨d0, d1, d2, d3, d4, d5, d6, d7, d8, d9, d10, d11, d12, d13⟩ := h2.st.a.c
    exact ⟨by simp (disch := omega) only [go_sem, ↓reduceIte , d0], by simp (disch := omega) only [go_sem, ↓reduceIte , d1], by simp (disch := omega) only [go_sem, ↓reduceIte , d2], by simp (disch := omega) only [go_sem, ↓reduceIte , d3], by simp (disch := omega) only [go_sem, ↓reduceIte , d4], by simp (disch := omega) only [go_sem, ↓reduceIte , d5], by simp (disch := omega) only [go_sem, ↓reduceIte , d6], by simp (disch := omega) only [go_sem, ↓reduceIte , d7], by simp (disch := omega) only [go_sem, ↓reduceIte ], by simp (disch := omega) only [go_sem, ↓reduceIte , d9], by simp (disch := omega) only [go_sem, ↓reduceIte , d10], by simp (disch := omega) only [go_sem, ↓reduceIte , d11], by simp (disch := omega) only [go_sem, ↓reduceIte , d12], by simp (disch := omega) only [go_sem, ↓reduceIte , d13]⟩
  have hset := h2.st.a.setAsks (l := []) (Nat.le_refl nx7) (k3.mono (Nat.le_refl _) (fun _ _ h => .inl h)) hEC (SlA.nil _ _ _) (.inl rfl) (fun b hb => by omega)
  have h3 := h2.eng (e' := { e with asks := [] }) ⟨Nat.le_refl _, k3.mono (Nat.le_refl _) (fun b _ hb => by rw [hb, h2.st.a.k.kp]; omega), hset, recol_fp (fun b hb => by omega)⟩ rfl
  simp (disch := omega) only [go_sem, ↓reduceIte , ord28x28, hone7, c87, c887]
  refine ⟨dkeep_last (by kernel_rfl), dkeep_last (by kernel_rfl), dkeep_last (by kernel_rfl), ?_⟩
  generalize ((H7.put b8 1 v7).put p (7 + 1) (.slice none 0 0)) = M at h3 ⊢
  have e80 := h3.c80
  have e81 := h3.c81
  have e60 := h3.c60
  have e61 := h3.c61
  obtain ⟨va, vc, rfl⟩ := h3.sl.form
  have hl63 := h3.l6
  have hg6 := h3.g6
  have hlo6 : lo ≤ b6 := by omega
  have hne68 := h3.ne
  have ho6 := h3.o6
  have hmx := h3.sl.maxLen
  have hne86 : b8 ≠ b6 := fun hc => hne68 hc.symm
  refine awp_drawS ord28x29 _ (hide_sub _ b6) (by kernel_rfl) ?_
  simp (disch := omega) only [go_sem, ↓reduceIte , ord28x29, e80, e81, e60, e61]
  have k6 : Kp (fun b => b = b6) nx7 M ((M.put b6 0 (.int .i64 e.id)).put b6 1 (.slice va (P ++ e.asks).length vc)) := (by repeat first | exact Kp.refl _ _ _ | refine Kp.dropT ?_ (.inl (by omega)) | refine Kp.put ?_ (.inl (by omega)) | refine Kp.new ?_ (by omega) | refine Kp.put ?_ (.inr (by omega)) | refine Kp.newO ?_ (by omega) | refine Kp.setO ?_ (.inl (by omega)) | refine Kp.setO ?_ (.inr (by omega)) | refine Kp.trans0 ?_ (by assumption) (by omega) | refine Kp.transS ?_ (by assumption) (by omega) (fun b hb hT => by first | omega | (dsimp only at hT ⊢; omega) | (simp only at hT ⊢; omega))) 
  refine ⟨dkeep_hide k6, ?_⟩
  have h3k := h3.k6
  have sfin := h3.st.step (e2 := { e with asks := [] }) (k6.mono (Nat.le_refl _) (fun b _ hb => .inr (by rw [hb]; exact hg6))) (Nat.le_refl _) (h3.st.a.kp' (nx' := nx7) k6 (Nat.le_refl _) (fun b hb hs => hb (by rw [hs]; exact h3k))) (fun b hb => .inl hb)
  exact hR _ _ _ _ _ own7 sfin ((h3.sl.put (by omega)).put (by omega)) h3.ow h3.ko
set_option maxHeartbeats 4000000 in
set_option maxRecDepth 20000 in
theorem te_end2 {lo nx0 : Nat} {H0 : AH} {p : Nat} {col0 : Nat → Nat} {b6 b8 : Nat} {e : Eng} {P : List Prt} {H : AH} {nx : Nat} {y : ELay} {col : Nat → Nat} {v : Value} {own : Nat} {sv : Value} {R : Value → AH → Nat → Prop} {rest : Env}
    (h : TeI lo nx0 H0 p col0 b6 b8 e P H nx y col v own) (hP : P.length ≤ 4000000) (hal : e.asks.length ≤ 1000000) (hlo0 : lo ≤ nx0)
    (hR : ∀ H' nx' y' col' v' own', EngS lo nx0 H0 p col0 { e with asks := [] } H' nx' y' col' → SlA nx' H' 7 v' (P ++ e.asks).length (ptCells (P ++ e.asks)) own' → (own' = 0 ∨ nx0 < own') → (∀ b, b + 1 = own' → col' b = 0) → R (.tuple #[.agg #[.int .i64 e.id, v'], .bool (decide (0 < ((P ++ e.asks).length : Int)))]) H' nx') :
    awp Tryz.prog lo L28 teT5 (retQ Tryz.prog Tryz.f28 R) ((0, .pointer (some ⟨p, 0, none⟩)) :: (2, sv) :: (6, .pointer (some ⟨b6, 0, none⟩)) :: (8, .pointer (some ⟨b8, 0, none⟩)) :: rest) H nx := by
  have hcode : teT5 = codeAt [.T, .T, .T, .T, .T] ((Tryz.f28.body).getD .skip) := rfl
  simp only [Tryz.f28, Option.getD_some, codeAt_H, codeAt_T, codeAt_I, codeAt_L, codeAt_C, codeAt_P, codeAt_nil] at hcode
  rw [hcode]
  clear hcode
  have hlo : lo ≤ nx := by have := h.st.le; omega
  have hle := h.st.le
  have c81 := h.c81
  have c88 : H.c p (7 + 1) = some y.v8 := h.st.a.c.c8
  have hov := h.sl.one
  have ho8 := h.st.a.s8.one
  have hpn := h.st.a.k.lt h.st.a.k.kp (by omega)
  have hl8 := h.l8
  have hl6 := h.l6
  simp (disch := omega) only [go_sem, ↓reduceIte ]
  refine awp_draw ord28x28 (by kernel_rfl) ?_
  simp (disch := omega) only [go_sem, ↓reduceIte , ord28x28, c81, c88, hov, ho8]
  have how := h.ow
  refine appendQ_two (aw_append sl34 zero32 rfl by32 h.sl (h.st.a.s8.src sl34 ptCells_one) (by simp only [maxLen]; omega) (by omega) (by omega) fun v7 H7 nx7 own7 hn7 hs7 ho7 hk7 _ => ?_)
  have hone7 := hs7.one
  have hb8 := h.o8
  have hnl := h.g8
  have hlo8 : lo ≤ b8 := by omega
  have hlop := hpn.1
  have c87 : H7.c b8 1 = some v := by rw [hk7.cell b8 1 (by omega) (by omega)]; exact c81
  have c807 : H7.c b8 0 = some (.int .i64 e.id) := by rw [hk7.cell b8 0 (by omega) (by omega)]; exact h.c80
  have hpo : p + 1 ≠ own := fun hc => by
    have := h.ko p hc
    have := h.st.a.k.kp
    omega
  have hp8 : p ≠ b8 := fun hc => by
    have h1 := h.k8
    rw [← hc, h.st.a.k.kp] at h1
    omega
  have c887 : H7.c p (7 + 1) = some y.v8 := by rw [hk7.cell p _ (by omega) hpo]; exact c88
  have k27 : Kp (fun b => b = b8 ∨ b + 1 = own) nx H (H7.put b8 1 v7) := (by repeat first | exact Kp.refl _ _ _ | refine Kp.dropT ?_ (.inl (by omega)) | refine Kp.put ?_ (.inl (by omega)) | refine Kp.new ?_ (by omega) | refine Kp.put ?_ (.inr (by omega)) | refine Kp.newO ?_ (by omega) | refine Kp.setO ?_ (.inl (by omega)) | refine Kp.setO ?_ (.inr (by omega)) | refine Kp.trans0 ?_ (by assumption) (by omega) | refine Kp.transS ?_ (by assumption) (by omega) (fun b hb hT => by first | omega | (dsimp only at hT ⊢; omega) | (simp only at hT ⊢; omega))) 
  have h2 := h.push (P' := P ++ e.asks) (v' := v7) (own' := own7) (nx' := nx7) k27 (by omega) (by simp (disch := omega) only [go_sem, ↓reduceIte , c807]) (by simp (disch := omega) only [go_sem, ↓reduceIte ]) (by
    rw [List.length_append, ptCells_append]
    exact hs7.put (by omega)) (by omega)
  have k3 : Kp (fun b => b = p) nx7 (H7.put b8 1 v7) ((H7.put b8 1 v7).put p (7 + 1) (.slice none 0 0)) := (by repeat first | exact Kp.refl _ _ _ | refine Kp.dropT ?_ (.inl (by omega)) | refine Kp.put ?_ (.inl (by omega)) | refine Kp.new ?_ (by omega) | refine Kp.put ?_ (.inr (by omega)) | refine Kp.newO ?_ (by omega) | refine Kp.setO ?_ (.inl (by omega)) | refine Kp.setO ?_ (.inr (by omega)) | refine Kp.trans0 ?_ (by assumption) (by omega) | refine Kp.transS ?_ (by assumption) (by omega) (fun b hb hT => by first | omega | (dsimp only at hT ⊢; omega) | (simp only at hT ⊢; omega))) 
  have hEC : EngC ((H7.put b8 1 v7).put p (7 + 1) (.slice none 0 0)) p { e with asks := [] } { y with v8 := .slice none 0 0, o8 := 0 } := by
    obtain ⟨d0, d1, d2, d3, d4, d5, d6, d7, d8, d9, d10, d11, d12, d13⟩ := h2.st.a.c
    exact ⟨by simp (disch := omega) only [go_sem, ↓reduceIte , d0], by simp (disch := omega) only [go_sem, ↓reduceIte , d1], by simp (disch := omega) only [go_sem, ↓reduceIte , d2], by simp (disch := omega) only [go_sem, ↓reduceIte , d3], by simp (disch := omega) only [go_sem, ↓reduceIte , d4], by simp (disch := omega) only [go_sem, ↓reduceIte , d5], by simp (disch := omega) only [go_sem, ↓reduceIte , d6], by simp (disch := omega) only [go_sem, ↓reduceIte , d7], by simp (disch := omega) only [go_sem, ↓reduceIte ], by simp (disch := omega) only [go_sem, ↓reduceIte , d9], by simp (disch := omega) only [go_sem, ↓reduceIte , d10], by simp (disch := omega) only [go_sem, ↓reduceIte , d11], by simp (disch := omega) only [go_sem, ↓reduceIte , d12], by simp (disch := omega) only [go_sem, ↓reduceIte , d13]⟩
  have hset := h2.st.a.setAsks (l := []) (Nat.le_refl nx7) (k3.mono (Nat.le_refl _) (fun _ _ h => .inl h)) hEC (SlA.nil _ _ _) (.inl rfl) (fun b hb => by omega)
  have h3 := h2.eng (e' := { e with asks := [] }) ⟨Nat.le_refl _, k3.mono (Nat.le_refl _) (fun b _ hb => by rw [hb, h2.st.a.k.kp]; omega), hset, recol_fp (fun b hb => by omega)⟩ rfl
  simp (disch := omega) only [go_sem, ↓reduceIte , ord28x28, hone7, c87, c887]
  refine ⟨dkeep_last (by kernel_rfl), dkeep_last (by kernel_rfl), dkeep_last (by kernel_rfl), ?_⟩
  generalize ((H7.put b8 1 v7).put p (7 + 1) (.slice none 0 0)) = M at h3 ⊢
  have e80 := h3.c80
  have e81 := h3.c81
  have e60 := h3.c60
  have e61 := h3.c61
  obtain ⟨va, vc, rfl⟩ := h3.sl.form
  have hl63 := h3.l6
  have hg6 := h3.g6
  have hlo6 : lo ≤ b6 := by omega
  have hne68 := h3.ne
  have ho6 := h3.o6
  have hmx := h3.sl.maxLen
  have hne86 : b8 ≠ b6 := fun hc => hne68 hc.symm
  refine awp_drawS ord28x29 _ (hide_sub _ b6) (by kernel_rfl) ?_
  simp (disch := omega) only [go_sem, ↓reduceIte , ord28x29, e80, e81, e60, e61]
  have k6 : Kp (fun b => b = b6) nx7 M ((M.put b6 0 (.int .i64 e.id)).put b6 1 (.slice va (P ++ e.asks).length vc)) := (by repeat first | exact Kp.refl _ _ _ | refine Kp.dropT ?_ (.inl (by omega)) | refine Kp.put ?_ (.inl (by omega)) | refine Kp.new ?_ (by omega) | refine Kp.put ?_ (.inr (by omega)) | refine Kp.newO ?_ (by omega) | refine Kp.setO ?_ (.inl (by omega)) | refine Kp.setO ?_ (.inr (by omega)) | refine Kp.trans0 ?_ (by assumption) (by omega) | refine Kp.transS ?_ (by assumption) (by omega) (fun b hb hT => by first | omega | (dsimp only at hT ⊢; omega) | (simp only at hT ⊢; omega))) 
  refine ⟨dkeep_hide k6, ?_⟩
  have h3k := h3.k6
  have sfin := h3.st.step (e2 := { e with asks := [] }) (k6.mono (Nat.le_refl _) (fun b _ hb => .inr (by rw [hb]; exact hg6))) (Nat.le_refl _) (h3.st.a.kp' (nx' := nx7) k6 (Nat.le_refl _) (fun b hb hs => hb (by rw [hs]; exact h3k))) (fun b hb => .inl hb)
  exact hR _ _ _ _ _ own7 sfin ((h3.sl.put (by omega)).put (by omega)) h3.ow h3.ko
end Go.Proofs.YtngnbafididkcaaGreat
end
section
namespace Go.Proofs.YtngnbafididkcaaGreat
open Go.RowKit
set_option linter.unusedSimpArgs false

noncomputable def teT0 : Code := (Tryz.f28.body).getD .skip
noncomputable def teX : Code := codeAt [.T, .T, .T, .H, .T, .C] ((Tryz.f28.body).getD .skip)
/-- What goes out, where no hello is due; what is left. -/
def tellP (e : Eng) (may : Rt → Bool) : List Prt := (if e.due = true then lostPt e e.lost ++ selPt e may e.sel else []) ++ e.asks
def tellE (e : Eng) : Eng := if e.due = true then { e with lost := [], due := false, asks := [] } else { e with asks := [] }
set_option maxHeartbeats 4000000 in
set_option maxRecDepth 20000 in
theorem etell_c {lo nx : Nat} {H : AH} {p : Nat} {e : Eng} {y : ELay} {col : Nat → Nat} {may : Rt → Bool} {sv : Value} (hA : EngA lo nx H p e y col) (now : Int) (hnow : 0 ≤ now ∧ now ≤ 1000000 ∧ now % 2 = 1) (hll : e.lost.length ≤ 1000000) (hsl : e.sel.length ≤ 1000) (hal : e.asks.length ≤ 1000)
    (hmay : ∀ r ∈ e.sel, ∀ (H' : AH) (nx' : Nat), nx ≤ nx' → Kp (fun b => col b ≠ 0) nx H H' → ACalls Tryz.prog lo 64 #[.agg r.cells.toArray, sv] H' nx' (fun w H2 nx2 => w = .bool (may r) ∧ nx' ≤ nx2 ∧ Kp (fun _ => False) nx' H' H2)) :
    ACalls Tryz.prog lo 28 #[.pointer (some ⟨p, 0, none⟩), .int .u64 now, sv] H nx (fun r H' nx' => ∃ v' y' col' own', r = .tuple #[.agg #[.int .i64 e.id, v'], .bool (decide (0 < ((tellP e may).length : Int)))] ∧ EngS lo nx H p col (tellE e) H' nx' y' col' ∧ SlA nx' H' 7 v' (tellP e may).length (ptCells (tellP e may)) own' ∧ (own' = 0 ∨ nx < own') ∧ ∀ b, b + 1 = own' → col' b = 0) := by
  refine ACalls.withLo fun hlo => ?_
  refine acalls_of_awp (c := teT0) L28 Tryz.func28 rfl (by kernel_rfl) ?_
  have hcode : teT0 = .seq (codeAt [.H] ((Tryz.f28.body).getD .skip)) (.seq (codeAt [.T, .H] ((Tryz.f28.body).getD .skip)) (.seq (codeAt [.T, .T, .H] ((Tryz.f28.body).getD .skip)) (.seq (.seq (codeAt [.T, .T, .T, .H, .H] ((Tryz.f28.body).getD .skip)) (.cond (.tmp 26) teX .skip)) (.seq (.seq (codeAt [.T, .T, .T, .T, .H, .H] ((Tryz.f28.body).getD .skip)) (.cond (.tmp 79) (.seq (.seq (codeAt [.T, .T, .T, .T, .H, .T, .C, .H, .H] ((Tryz.f28.body).getD .skip)) (.block 2 teL2)) (.seq (.seq (codeAt [.T, .T, .T, .T, .H, .T, .C, .T, .H, .H] ((Tryz.f28.body).getD .skip)) (.block 4 teL3)) (codeAt [.T, .T, .T, .T, .H, .T, .C, .T, .T] ((Tryz.f28.body).getD .skip)))) .skip)) teT5)))) := rfl
  simp only [Tryz.f28, Option.getD_some, codeAt_H, codeAt_T, codeAt_I, codeAt_L, codeAt_C, codeAt_P, codeAt_nil] at hcode
  rw [hcode]
  clear hcode
  generalize hR : (fun (r : Value) (H' : AH) (nx' : Nat) => ∃ v' y' col' own', r = .tuple #[.agg #[.int .i64 e.id, v'], .bool (decide (0 < ((tellP e may).length : Int)))] ∧ EngS lo nx H p col (tellE e) H' nx' y' col' ∧ SlA nx' H' 7 v' (tellP e may).length (ptCells (tellP e may)) own' ∧ (own' = 0 ∨ nx < own') ∧ ∀ b, b + 1 = own' → col' b = 0) = R
  have c0 := hA.c.c0
  have hpn := hA.k.lt hA.k.kp (by omega)
  simp (disch := omega) only [go_sem, ↓reduceIte ]
  intro b6 h6
  simp (disch := omega) only [go_sem, ↓reduceIte , c0]
  intro b8 h8
  have c01 : (H.new b6 #[.int .i64 0, .slice none 0 0] 36).c p 0 = some (.int .i64 e.id) := by simp (disch := omega) only [go_sem, ↓reduceIte , c0]
  have c9 : H.c p (7 + 1 + 1) = some (.bool e.due) := hA.c.c9
  have k0 : Kp (fun _ => False) nx H (((H.new b6 #[.int .i64 0, .slice none 0 0] 36).new b8 #[.int .i64 0, .slice none 0 0] 36).put b8 0 (.int .i64 e.id) |>.put b8 1 (.slice none 0 0)) := (by repeat first | exact Kp.refl _ _ _ | refine Kp.dropT ?_ (.inl (by omega)) | refine Kp.put ?_ (.inl (by omega)) | refine Kp.new ?_ (by omega) | refine Kp.put ?_ (.inr (by omega)) | refine Kp.newO ?_ (by omega) | refine Kp.setO ?_ (.inl (by omega)) | refine Kp.setO ?_ (.inr (by omega)) | refine Kp.trans0 ?_ (by assumption) (by omega) | refine Kp.transS ?_ (by assumption) (by omega) (fun b hb hT => by first | omega | (dsimp only at hT ⊢; omega) | (simp only at hT ⊢; omega))) 
  have col0 : ∀ b, nx ≤ b → col b = 0 := fun b hb => Classical.byContradiction fun hc => by have := hA.k.rng b hc; omega
  have h0 : TeI lo nx H p col b6 b8 e [] (((H.new b6 #[.int .i64 0, .slice none 0 0] 36).new b8 #[.int .i64 0, .slice none 0 0] 36).put b8 0 (.int .i64 e.id) |>.put b8 1 (.slice none 0 0)) (b8 + 1) y col (.slice none 0 0) 0 :=
    ⟨(EngS.refl hA).still k0 (by omega), h6, by omega, col0 b6 h6, by simp (disch := omega) only [go_sem, ↓reduceIte ], by simp (disch := omega) only [go_sem, ↓reduceIte ], by omega, by omega, col0 b8 (by omega), by simp (disch := omega) only [go_sem, ↓reduceIte ], by simp (disch := omega) only [go_sem, ↓reduceIte ], by omega, SlA.nil _ _ _, .inl rfl, by omega, by omega, fun b hb => by omega⟩
  cases hdue : e.due with
  | false =>
    rw [hdue] at c9
    simp (disch := omega) only [go_sem, ↓reduceIte , c0, c9]
    generalize (((H.new b6 #[.int .i64 0, .slice none 0 0] 36).new b8 #[.int .i64 0, .slice none 0 0] 36).put b8 0 (.int .i64 e.id) |>.put b8 1 (.slice none 0 0)) = M at h0 ⊢
    have hp0 : tellP e may = [] ++ e.asks := by unfold tellP; rw [hdue]; rfl
    have he0 : tellE e = { e with asks := [] } := by unfold tellE; rw [hdue]; rfl
    exact te_end2 h0 (by simp) (by omega) hlo (fun H' nx' y' col' v' own' s1 s2 s3 s4 => by
      rw [← hR]
      exact ⟨v', y', col', own', by rw [hp0], by rw [he0]; exact s1, by rw [hp0]; exact s2, s3, s4⟩)
  | true =>
    rw [hdue] at c9
    have m7 := hA.c.c7
    have m7o := hA.s7.one
    obtain ⟨sa, sc, hf7⟩ := hA.s7.form
    rw [hf7] at m7 m7o
    simp (disch := omega) only [go_sem, ↓reduceIte , c0, c9, m7, m7o]
    generalize (((H.new b6 #[.int .i64 0, .slice none 0 0] 36).new b8 #[.int .i64 0, .slice none 0 0] 36).put b8 0 (.int .i64 e.id) |>.put b8 1 (.slice none 0 0)) = M at h0 ⊢
    refine te_lost (now := now) hf7 h0 (by simp) (by omega) (by omega) hlo (fun H2 nx2 y2 c2 v2 o2 h2 => ?_)
    obtain ⟨s5a, s5c, hf5⟩ := h2.st.a.s5.form
    have m5 := h2.st.a.c.c5
    have m5o := h2.st.a.s5.one
    rw [hf5] at m5 m5o
    simp (disch := omega) only [go_sem, ↓reduceIte , m5, m5o]
    have hl0 : (lostPt e e.lost).length ≤ e.lost.length := by
      unfold lostPt
      rw [List.length_map]
      exact List.length_filter_le _ _
    refine te_sel (may := may) hf5 h2 (by simpa using (by omega : (lostPt e e.lost).length ≤ 2000000)) (by omega) hlo hmay (fun H3 nx3 y3 c3 v3 o3 h3 => ?_)
    have hpn3 := h3.st.a.k.lt h3.st.a.k.kp (by omega)
    have hlop3 := hpn3.1
    have hlo3 : lo ≤ nx3 := by omega
    have q0 := h3.st.a.c.c0
    have q7 := h3.st.a.c.c7
    have q9 : H3.c p (7 + 1 + 1) = some (.bool e.due) := h3.st.a.c.c9
    simp (disch := omega) only [go_sem, ↓reduceIte , q0, q7, q9]
    have hE7 := h3.st.a.c.put7 (l := []) (v := .slice none 0 0) 0
    have k7 : Kp (fun b => b = p) nx3 H3 (H3.put p 7 (.slice none 0 0)) := (by repeat first | exact Kp.refl _ _ _ | refine Kp.dropT ?_ (.inl (by omega)) | refine Kp.put ?_ (.inl (by omega)) | refine Kp.new ?_ (by omega) | refine Kp.put ?_ (.inr (by omega)) | refine Kp.newO ?_ (by omega) | refine Kp.setO ?_ (.inl (by omega)) | refine Kp.setO ?_ (.inr (by omega)) | refine Kp.trans0 ?_ (by assumption) (by omega) | refine Kp.transS ?_ (by assumption) (by omega) (fun b hb hT => by first | omega | (dsimp only at hT ⊢; omega) | (simp only at hT ⊢; omega))) 
    have a7 := h3.st.a.setLost (l := []) (nx' := nx3) (Nat.le_refl _) (k7.mono (Nat.le_refl _) (fun _ _ h => .inl h)) hE7 (SlA.nil _ _ _) (.inl rfl) (fun b hb => by omega)
    have k9 : Kp (fun b => b = p) nx3 (H3.put p 7 (.slice none 0 0)) ((H3.put p 7 (.slice none 0 0)).put p (7 + 2) (.bool false)) := (by repeat first | exact Kp.refl _ _ _ | refine Kp.dropT ?_ (.inl (by omega)) | refine Kp.put ?_ (.inl (by omega)) | refine Kp.new ?_ (by omega) | refine Kp.put ?_ (.inr (by omega)) | refine Kp.newO ?_ (by omega) | refine Kp.setO ?_ (.inl (by omega)) | refine Kp.setO ?_ (.inr (by omega)) | refine Kp.trans0 ?_ (by assumption) (by omega) | refine Kp.transS ?_ (by assumption) (by omega) (fun b hb hT => by first | omega | (dsimp only at hT ⊢; omega) | (simp only at hT ⊢; omega))) 
    have a9 := a7.scal (e' := { e with lost := [], due := false }) k9 (a7.c.put9 false) rfl rfl rfl rfl rfl rfl rfl
    have k79 : Kp (fun b => b = p) nx3 H3 ((H3.put p 7 (.slice none 0 0)).put p (7 + 2) (.bool false)) := (by repeat first | exact Kp.refl _ _ _ | refine Kp.dropT ?_ (.inl (by omega)) | refine Kp.put ?_ (.inl (by omega)) | refine Kp.new ?_ (by omega) | refine Kp.put ?_ (.inr (by omega)) | refine Kp.newO ?_ (by omega) | refine Kp.setO ?_ (.inl (by omega)) | refine Kp.setO ?_ (.inr (by omega)) | refine Kp.trans0 ?_ (by assumption) (by omega) | refine Kp.transS ?_ (by assumption) (by omega) (fun b hb hT => by first | omega | (dsimp only at hT ⊢; omega) | (simp only at hT ⊢; omega))) 
    have h4 := h3.eng (e' := { e with lost := [], due := false }) ⟨Nat.le_refl _, k79.mono (Nat.le_refl _) (fun b _ hb => by rw [hb, h3.st.a.k.kp]; omega), a9, recol_fp (fun b hb => by omega)⟩ rfl
    generalize ((H3.put p 7 (.slice none 0 0)).put p (7 + 2) (.bool false)) = M4 at h4 ⊢
    have hp0 : tellP e may = ([] ++ lostPt e e.lost ++ selPt e may e.sel) ++ e.asks := by unfold tellP; rw [if_pos hdue, List.nil_append]
    have he0 : tellE e = { e with lost := [], due := false, asks := [] } := by unfold tellE; rw [if_pos hdue]
    refine te_end h4 ?_ (by show e.asks.length ≤ _; omega) hlo (fun H' nx' y' col' v' own' s1 s2 s3 s4 => by
      rw [← hR]
      exact ⟨v', y', col', own', by rw [hp0], by rw [he0]; exact s1, by rw [hp0]; exact s2, s3, s4⟩)
    rw [List.nil_append, List.length_append]
    unfold selPt
    rw [List.length_map]
    omega
end Go.Proofs.YtngnbafididkcaaGreat
end
section
namespace Go.Proofs.YtngnbafididkcaaGreat
open Go.RowKit
set_option linter.unusedSimpArgs false

/-- A row, as it lies. -/
structure RwE where
  a : Int
  n : Int
  has : Bool
  ra : Int
  rn : Int
  via : Int
  met : Int
  seq : Int
  s : Int
  m : Int
def RwE.cells (x : RwE) : List Value := [.int .u32 x.a, .int .u8 x.n, .bool x.has, .int .u32 x.ra, .int .u8 x.rn, .int .i64 x.via, .int .u16 x.met, .int .u16 x.seq, .int .u16 x.s, .int .u16 x.m]
def rweCells (l : List RwE) : List Value := l.flatMap RwE.cells
theorem rwe_ten (x : RwE) : x.cells.length = 10 := rfl
theorem rwe_load {nx : Nat} {H : AH} {g off c n own : Nat} {l : List RwE} (hs : SlA nx H 10 (.slice (some ⟨g, off, none⟩) n c) n (rweCells l) own) {i : Nat} {x : RwE} (hi : l[i]? = some x) : loadN H g (off + i * 10) 10 = some x.cells := flat_load rwe_ten hs hi
set_option maxRecDepth 20000 in
theorem idxRw_c {lo : Nat} {H : AH} {nx : Nat} {v : Value} {l : List RwE} {own : Nat} (hs : SlA nx H 10 v l.length (rweCells l) own) (hl : l.length ≤ 1000000) {g : Nat} {cap : List Value} (hfn : fnOk Tryz.prog g = true) {q : RwE → Bool}
    (hf : ∀ x ∈ l, ∀ (H1 : AH) (nx1 : Nat), nx ≤ nx1 → Kp (fun _ => False) nx H H1 → ACalls Tryz.prog lo g (.agg x.cells.toArray :: cap).toArray H1 nx1 (fun v H' nx' => v = .bool (q x) ∧ nx1 ≤ nx' ∧ Kp (fun _ => False) nx1 H1 H')) :
    ACalls Tryz.prog lo 137 #[v, .func (.func g) #[] cap.toArray] H nx (fun v H' nx' => nx ≤ nx' ∧ Kp (fun _ => False) nx H H' ∧ ∃ r, v = .int .i64 r ∧ (0 ≤ r ↔ l.any q = true)) := by
  refine ACalls.withLo fun hlo => ?_
  refine acalls_of_awp L137 Tryz.func137 rfl (by kernel_rfl) ?_
  obtain ⟨aa, ac, rfl⟩ := hs.form
  simp (disch := omega) only [go_sem, ↓reduceIte ]
  refine awp_loop (fun m env H1 nx1 => ∃ i, IxI nx H (.slice aa l.length ac) (.func (.func g) #[] cap.toArray) q l m env H1 nx1 i) l.length ⟨0, ⟨rfl, by omega, rfl, Nat.le_refl _, Kp.refl _ _ _, by simp⟩⟩ (fun m env H1 nx1 ⟨i, hI⟩ hn => ?_)
  obtain ⟨hm, hi, henv, hx, hk, hno⟩ := hI
  subst henv
  by_cases hlt : i < l.length
  · obtain ⟨gb, off, cp, hv, hgo⟩ := hs.open (by omega)
    simp only [Value.slice.injEq, true_and] at hv
    obtain ⟨rfl, rfl⟩ := hv
    have hs1 := hs.kp hk hx (by simp)
    have hx0 : l[i]? = some l[i] := List.getElem?_eq_getElem hlt
    have hld := rwe_load hs1 hx0
    have hq := hf l[i] (List.getElem_mem hlt) H1 nx1 hx hk
    have htn := take_next hlt hno
    generalize hx1 : l[i] = x at hx0 hld hq htn
    have hxm : x ∈ l := by rw [← hx1]; exact List.getElem_mem hlt
    unfold RwE.cells at hld hq
    simp (disch := omega) only [go_sem, ↓reduceIte , hld]
    refine hq.mono fun v H2 nx2 _ ⟨hv, hx2, hk2⟩ => ?_
    subst hv
    have k2 : Kp (fun _ => False) nx H H2 := hk.trans0 hk2 hx
    cases hqx : q x with
    | true =>
      simp (disch := omega) only [go_sem, ↓reduceIte ]
      exact ⟨by omega, k2, i, rfl, iff_of_true (by omega) (List.any_eq_true.2 ⟨x, hxm, hqx⟩)⟩
    | false =>
      simp (disch := omega) only [go_sem, ↓reduceIte ]
      exact ⟨l.length - (i + 1), by omega, i + 1, ⟨rfl, by omega, rfl, by omega, k2, htn hqx⟩⟩
  · have ei : i = l.length := by omega
    subst ei
    simp (disch := omega) only [go_sem, ↓reduceIte ]
    refine ⟨by omega, hk, -1, rfl, iff_of_false (by omega) fun h => ?_⟩
    obtain ⟨x, hx, h2⟩ := List.any_eq_true.1 h
    rw [hno x (by rw [List.take_length]; exact hx)] at h2
    cases h2
set_option maxRecDepth 20000 in
theorem contRw_c {lo : Nat} {H : AH} {nx : Nat} {v : Value} {l : List RwE} {own : Nat} (hs : SlA nx H 10 v l.length (rweCells l) own) (hl : l.length ≤ 1000000) {g : Nat} {cap : List Value} (hfn : fnOk Tryz.prog g = true) {q : RwE → Bool}
    (hf : ∀ x ∈ l, ∀ (H1 : AH) (nx1 : Nat), nx ≤ nx1 → Kp (fun _ => False) nx H H1 → ACalls Tryz.prog lo g (.agg x.cells.toArray :: cap).toArray H1 nx1 (fun v H' nx' => v = .bool (q x) ∧ nx1 ≤ nx' ∧ Kp (fun _ => False) nx1 H1 H')) :
    ACalls Tryz.prog lo 101 #[v, .func (.func g) #[] cap.toArray] H nx (fun v H' nx' => v = .bool (l.any q) ∧ nx ≤ nx' ∧ Kp (fun _ => False) nx H H') := by
  refine acalls_of_awp L101 Tryz.func101 rfl (by kernel_rfl) ?_
  simp (disch := omega) only [go_sem, ↓reduceIte ]
  refine (idxRw_c hs hl hfn hf).mono fun v H1 nx1 _ ⟨hx, hk, r, hv, hr⟩ => ?_
  subst hv
  simp (disch := omega) only [go_sem, ↓reduceIte ]
  refine ⟨?_, hx, hk⟩
  congr 1
  rw [Bool.eq_iff_iff, ← hr, decide_eq_true_iff]
/-- May a way be told? -/
def mayE (rs : List RwE) (r : Rt) : Bool := rs.any fun x => decide (x.a = r.addr) && decide (x.n = r.len) && !nearI r.seq r.metric x.s x.m
structure RtBox (H : AH) (b : Nat) (r : Rt) : Prop where
  c0 : H.c b 0 = some (.int .u32 r.addr)
  c1 : H.c b 1 = some (.int .u8 r.len)
  c2 : H.c b 2 = some (.int .i64 r.via)
  c3 : H.c b 3 = some (.int .u16 r.metric)
  c4 : H.c b 4 = some (.int .u16 r.seq)
set_option maxRecDepth 20000 in
theorem emayC_c {lo : Nat} {H : AH} {nx b : Nat} {r : Rt} (hb : b < nx) (h : RtBox H b r) (x : RwE) : ACalls Tryz.prog lo 102 #[.agg x.cells.toArray, .pointer (some ⟨b, 0, none⟩)] H nx (fun v H' nx' => v = .bool (decide (x.a = r.addr) && decide (x.n = r.len) && !nearI r.seq r.metric x.s x.m) ∧ nx ≤ nx' ∧ Kp (fun _ => False) nx H H') := by
  refine ACalls.withLo fun hlo => ?_
  refine acalls_of_awp L102 Tryz.func102 rfl (by kernel_rfl) ?_
  obtain ⟨h0, h1, h2, h3, h4⟩ := h
  unfold RwE.cells
  simp (disch := omega) only [go_sem, ↓reduceIte ]
  intro d hd
  simp (disch := omega) only [go_sem, ↓reduceIte , h0, h1, h2, h3, h4]
  cases hg : (decide (x.a = r.addr) && decide (x.n = r.len)) with
  | false =>
    simp (disch := omega) only [go_sem, ↓reduceIte ]
    exact ⟨by omega, (by repeat first | exact Kp.refl _ _ _ | refine Kp.dropT ?_ (.inl (by omega)) | refine Kp.put ?_ (.inl (by omega)) | refine Kp.new ?_ (by omega) | refine Kp.put ?_ (.inr (by omega)) | refine Kp.newO ?_ (by omega) | refine Kp.setO ?_ (.inl (by omega)) | refine Kp.setO ?_ (.inr (by omega)) | refine Kp.trans0 ?_ (by assumption) (by omega) | refine Kp.transS ?_ (by assumption) (by omega) (fun b hb hT => by first | omega | (dsimp only at hT ⊢; omega) | (simp only at hT ⊢; omega))) ⟩
  | true =>
    simp (disch := omega) only [go_sem, ↓reduceIte , h0, h1, h2, h3, h4]
    refine (snearer_c r.seq r.metric x.s x.m _ _).mono fun v H2 nx2 _ ⟨hv, hx2, hk2⟩ => ?_
    subst hv
    simp (disch := omega) only [go_sem, ↓reduceIte ]
    exact ⟨by omega, Kp.trans (U := fun _ => False) (nx' := d + 1) (by repeat first | exact Kp.refl _ _ _ | refine Kp.dropT ?_ (.inl (by omega)) | refine Kp.put ?_ (.inl (by omega)) | refine Kp.new ?_ (by omega) | refine Kp.put ?_ (.inr (by omega)) | refine Kp.newO ?_ (by omega) | refine Kp.setO ?_ (.inl (by omega)) | refine Kp.setO ?_ (.inr (by omega)) | refine Kp.trans0 ?_ (by assumption) (by omega) | refine Kp.transS ?_ (by assumption) (by omega) (fun b hb hT => by first | omega | (dsimp only at hT ⊢; omega) | (simp only at hT ⊢; omega)))  hk2 (by omega) (fun _ _ h => h) (fun _ _ h => h)⟩
set_option maxRecDepth 20000 in
theorem emay_c {lo : Nat} {H : AH} {nx : Nat} {v : Value} {rs : List RwE} {own : Nat} (hs : SlA nx H 10 v rs.length (rweCells rs) own) (hl : rs.length ≤ 1000000) (r : Rt) :
    ACalls Tryz.prog lo 64 #[.agg r.cells.toArray, v] H nx (fun w H' nx' => w = .bool (mayE rs r) ∧ nx ≤ nx' ∧ Kp (fun _ => False) nx H H') := by
  refine ACalls.withLo fun hlo => ?_
  refine acalls_of_awp L64 Tryz.func64 rfl (by kernel_rfl) ?_
  unfold Rt.cells
  simp (disch := omega) only [go_sem, ↓reduceIte ]
  intro b hb
  have hb0 : RtBox (H.new b #[.int .u32 r.addr, .int .u8 r.len, .int .i64 r.via, .int .u16 r.metric, .int .u16 r.seq] 40) b r := ⟨by simp (disch := omega) only [go_sem, ↓reduceIte ], by simp (disch := omega) only [go_sem, ↓reduceIte ], by simp (disch := omega) only [go_sem, ↓reduceIte ], by simp (disch := omega) only [go_sem, ↓reduceIte ], by simp (disch := omega) only [go_sem, ↓reduceIte ]⟩
  have kb : Kp (fun _ => False) nx H (H.new b #[.int .u32 r.addr, .int .u8 r.len, .int .i64 r.via, .int .u16 r.metric, .int .u16 r.seq] 40) := (by repeat first | exact Kp.refl _ _ _ | refine Kp.dropT ?_ (.inl (by omega)) | refine Kp.put ?_ (.inl (by omega)) | refine Kp.new ?_ (by omega) | refine Kp.put ?_ (.inr (by omega)) | refine Kp.newO ?_ (by omega) | refine Kp.setO ?_ (.inl (by omega)) | refine Kp.setO ?_ (.inr (by omega)) | refine Kp.trans0 ?_ (by assumption) (by omega) | refine Kp.transS ?_ (by assumption) (by omega) (fun b hb hT => by first | omega | (dsimp only at hT ⊢; omega) | (simp only at hT ⊢; omega))) 
  simp (disch := omega) only [go_sem, ↓reduceIte ]
  generalize (H.new b #[.int .u32 r.addr, .int .u8 r.len, .int .i64 r.via, .int .u16 r.metric, .int .u16 r.seq] 40) = M at hb0 kb ⊢
  refine (contRw_c (q := fun x => decide (x.a = r.addr) && decide (x.n = r.len) && !nearI r.seq r.metric x.s x.m) (g := 102) (cap := [.pointer (some ⟨b, 0, none⟩)]) (hs.kp (S := fun _ => False) (nx' := b + 1) kb (by omega) (by simp)) hl (by kernel_rfl) (fun x _ H1 nx1 hx1 hk1 => emayC_c (by omega) ⟨by rw [hk1.cell0 b 0 (by omega)]; exact hb0.c0, by rw [hk1.cell0 b 1 (by omega)]; exact hb0.c1, by rw [hk1.cell0 b 2 (by omega)]; exact hb0.c2, by rw [hk1.cell0 b 3 (by omega)]; exact hb0.c3, by rw [hk1.cell0 b 4 (by omega)]; exact hb0.c4⟩ x)).mono fun w H1 nx1 _ ⟨hv, hx, hk⟩ => ?_
  subst hv
  simp (disch := omega) only [go_sem, ↓reduceIte ]
  exact ⟨rfl, by omega, kb.trans (U := fun _ => False) hk (by omega) (fun _ _ h => h) (fun _ _ h => h)⟩
end Go.Proofs.YtngnbafididkcaaGreat
end
