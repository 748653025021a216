/- EngineSinks: in our own logic: a round whole. -/
import Derived.Test.YtngnbafididkcaaGreatN67
namespace Go.Proofs.YtngnbafididkcaaGreat
open Go.RowKit
set_option linter.unusedSimpArgs false

noncomputable def skI0 : Code := codeAt [.T, .T, .T, .T, .T, .T, .H, .T, .I, .I, .T, .H, .I] ((Tryz.f6.body).getD .skip)
set_option maxHeartbeats 4000000 in
set_option maxRecDepth 20000 in
theorem sinks_round {lo nx0 nx : Nat} {H0 H : AH} {pt : Nat} {e : Eng} {y : ELay} {col : Nat → Nat} {b4 b5 b6 : Nat} {T W : Nat → Int} {Hs : Nat → Bool} {v0 : Value} {i it n : Nat} {l : List ActS} {own : Nat} {rest : Env} {K : Env → AH → Nat → Prop} {Q : Exit → Env → AH → Nat → Prop}
    (hlo : lo ≤ nx0) (hsl : SlA nx H 5 v0 l.length (actS l) own) (hi : i < l.length) (hlen : l.length ≤ 60) (hok : ∀ x ∈ l, ActSOk x) (st : EngS lo nx0 H0 pt (fun _ => 0) e H nx y col) (hE : SinkE e T it n) (hit : it ≤ 60) (hn : n ≤ 60) (sa : SnkA nx0 nx H col b4 b5 b6 W Hs T) (hold : OldM e W Hs)
    (hK : ∀ e' H' nx' y' col' W' Hs' T', EngS lo nx0 H0 pt (fun _ => 0) e' H' nx' y' col' → SinkE e' T' (it + 1) (n + 1) → SnkA nx0 nx' H' col' b4 b5 b6 W' Hs' T' → OldM e' W' Hs' → ∀ rest', K ((0, v0) :: (3, .pointer (some ⟨pt, 0, none⟩)) :: (4, .pointer (some ⟨b4, 0, none⟩)) :: (5, .pointer (some ⟨b5, 0, none⟩)) :: (6, .pointer (some ⟨b6, 0, none⟩)) :: (7, .int .i64 (i : Nat)) :: rest') H' nx') :
    awp Tryz.prog lo L6 skI0 (blockQ 1 (thenQ K Q)) ((0, v0) :: (3, .pointer (some ⟨pt, 0, none⟩)) :: (4, .pointer (some ⟨b4, 0, none⟩)) :: (5, .pointer (some ⟨b5, 0, none⟩)) :: (6, .pointer (some ⟨b6, 0, none⟩)) :: (7, .int .i64 (i : Nat)) :: rest) H nx := by
  have hcode : skI0 = .seq (codeAt [.T, .T, .T, .T, .T, .T, .H, .T, .I, .I, .T, .H, .I, .H] ((Tryz.f6.body).getD .skip)) (.seq (codeAt [.T, .T, .T, .T, .T, .T, .H, .T, .I, .I, .T, .H, .I, .T, .H] ((Tryz.f6.body).getD .skip)) (.seq (codeAt [.T, .T, .T, .T, .T, .T, .H, .T, .I, .I, .T, .H, .I, .T, .T, .H] ((Tryz.f6.body).getD .skip)) (.seq (codeAt [.T, .T, .T, .T, .T, .T, .H, .T, .I, .I, .T, .H, .I, .T, .T, .T, .H] ((Tryz.f6.body).getD .skip)) (.seq (codeAt [.T, .T, .T, .T, .T, .T, .H, .T, .I, .I, .T, .H, .I, .T, .T, .T, .T, .H] ((Tryz.f6.body).getD .skip)) (.seq (codeAt [.T, .T, .T, .T, .T, .T, .H, .T, .I, .I, .T, .H, .I, .T, .T, .T, .T, .T, .H] ((Tryz.f6.body).getD .skip)) skT6))))) := rfl
  simp only [Tryz.f6, Option.getD_some, codeAt_H, codeAt_T, codeAt_I, codeAt_L, codeAt_C, codeAt_P, codeAt_nil] at hcode
  rw [hcode]
  clear hcode
  have hle := st.le
  obtain ⟨g, off, cap, hv, hgo⟩ := hsl.open (by omega)
  subst hv
  have hx0 : l[i]? = some l[i] := List.getElem?_eq_getElem hi
  have hxo := hok l[i] (List.getElem_mem hi)
  generalize l[i] = x at hx0 hxo
  have hld := actS_load hsl hx0
  unfold ActS.cells at hld
  obtain ⟨op, ov, om, oq, ol⟩ := hxo
  simp (disch := omega) only [go_sem, ↓reduceIte , hld]
  intro b8 hb8
  simp (disch := omega) only [go_sem, ↓reduceIte ]
  have k8 : Kp (fun _ => False) nx H ((((((H.new b8 #[.int .u8 0, .int .u8 0, .int .u8 0, .int .u8 0, .int .u8 0] 57).put b8 0 (.int .u8 x.p)).put b8 1 (.int .u8 x.via)).put b8 (1 + 1) (.int .u8 x.met)).put b8 (1 + 1 + 1) (.int .u8 x.seq)).put b8 (1 + 1 + 1 + 1) (.int .u8 x.lat)) := (by repeat first | exact Kp.refl _ _ _ | refine Kp.dropT ?_ (.inl (by omega)) | refine Kp.put ?_ (.inl (by omega)) | refine Kp.new ?_ (by omega) | refine Kp.put ?_ (.inr (by omega)) | refine Kp.newO ?_ (by omega) | refine Kp.setO ?_ (.inl (by omega)) | refine Kp.setO ?_ (.inr (by omega)) | refine Kp.trans0 ?_ (by assumption) (by omega) | refine Kp.transS ?_ (by assumption) (by omega) (fun b hb hT => by first | omega | (dsimp only at hT ⊢; omega) | (simp only at hT ⊢; omega))) 
  have e0 : ((((((H.new b8 #[.int .u8 0, .int .u8 0, .int .u8 0, .int .u8 0, .int .u8 0] 57).put b8 0 (.int .u8 x.p)).put b8 1 (.int .u8 x.via)).put b8 (1 + 1) (.int .u8 x.met)).put b8 (1 + 1 + 1) (.int .u8 x.seq)).put b8 (1 + 1 + 1 + 1) (.int .u8 x.lat)).c b8 0 = some (.int .u8 x.p) := by simp (disch := omega) only [go_sem, ↓reduceIte ]
  have e1 : ((((((H.new b8 #[.int .u8 0, .int .u8 0, .int .u8 0, .int .u8 0, .int .u8 0] 57).put b8 0 (.int .u8 x.p)).put b8 1 (.int .u8 x.via)).put b8 (1 + 1) (.int .u8 x.met)).put b8 (1 + 1 + 1) (.int .u8 x.seq)).put b8 (1 + 1 + 1 + 1) (.int .u8 x.lat)).c b8 1 = some (.int .u8 x.via) := by simp (disch := omega) only [go_sem, ↓reduceIte ]
  have e2 : ((((((H.new b8 #[.int .u8 0, .int .u8 0, .int .u8 0, .int .u8 0, .int .u8 0] 57).put b8 0 (.int .u8 x.p)).put b8 1 (.int .u8 x.via)).put b8 (1 + 1) (.int .u8 x.met)).put b8 (1 + 1 + 1) (.int .u8 x.seq)).put b8 (1 + 1 + 1 + 1) (.int .u8 x.lat)).c b8 2 = some (.int .u8 x.met) := by simp (disch := omega) only [go_sem, ↓reduceIte ]
  have e3 : ((((((H.new b8 #[.int .u8 0, .int .u8 0, .int .u8 0, .int .u8 0, .int .u8 0] 57).put b8 0 (.int .u8 x.p)).put b8 1 (.int .u8 x.via)).put b8 (1 + 1) (.int .u8 x.met)).put b8 (1 + 1 + 1) (.int .u8 x.seq)).put b8 (1 + 1 + 1 + 1) (.int .u8 x.lat)).c b8 3 = some (.int .u8 x.seq) := by simp (disch := omega) only [go_sem, ↓reduceIte ]
  have e4 : ((((((H.new b8 #[.int .u8 0, .int .u8 0, .int .u8 0, .int .u8 0, .int .u8 0] 57).put b8 0 (.int .u8 x.p)).put b8 1 (.int .u8 x.via)).put b8 (1 + 1) (.int .u8 x.met)).put b8 (1 + 1 + 1) (.int .u8 x.seq)).put b8 (1 + 1 + 1 + 1) (.int .u8 x.lat)).c b8 4 = some (.int .u8 x.lat) := by simp (disch := omega) only [go_sem, ↓reduceIte ]
  generalize ((((((H.new b8 #[.int .u8 0, .int .u8 0, .int .u8 0, .int .u8 0, .int .u8 0] 57).put b8 0 (.int .u8 x.p)).put b8 1 (.int .u8 x.via)).put b8 (1 + 1) (.int .u8 x.met)).put b8 (1 + 1 + 1) (.int .u8 x.seq)).put b8 (1 + 1 + 1 + 1) (.int .u8 x.lat)) = M at k8 e0 e1 e2 e3 e4 ⊢
  have s8 := (EngS.refl st.a).still (nx2 := b8 + 1) k8 (by omega)
  refine (pfx_c x.p op.1 op.2 _ _).mono fun v H2 nx2 _ ⟨hv, hx2, hk2⟩ => ?_
  subst hv
  simp (disch := omega) only [go_sem, ↓reduceIte ]
  refine (first07_c (pfxA x.p) (pfxN x.p)).mono fun v H3 nx3 _ ⟨hv, hx3, hk3⟩ => ?_
  subst hv
  obtain ⟨k, hk18, hfk, _, _⟩ := first_at (first_pfx x.p op.1 op.2)
  rw [hfk]
  have s3 := (s8.still hk2 hx2).still hk3 hx3
  have hk23 : Kp (fun _ => False) (b8 + 1) M H3 := hk2.trans (U := fun _ => False) hk3 hx2 (fun _ _ h => h) (fun _ _ h => h)
  have f0 : H3.c b8 0 = some (.int .u8 x.p) := by rw [hk23.cell0 b8 _ (by omega)]; exact e0
  have f1 : H3.c b8 1 = some (.int .u8 x.via) := by rw [hk23.cell0 b8 _ (by omega)]; exact e1
  have f2 : H3.c b8 2 = some (.int .u8 x.met) := by rw [hk23.cell0 b8 _ (by omega)]; exact e2
  have f3 : H3.c b8 3 = some (.int .u8 x.seq) := by rw [hk23.cell0 b8 _ (by omega)]; exact e3
  have f4 : H3.c b8 4 = some (.int .u8 x.lat) := by rw [hk23.cell0 b8 _ (by omega)]; exact e4
  have g4' : H3.c b8 (1 + 1 + 1 + 1) = some (.int .u8 x.lat) := f4
  have g3' : H3.c b8 (1 + 1 + 1) = some (.int .u8 x.seq) := f3
  have g2' : H3.c b8 (1 + 1) = some (.int .u8 x.met) := f2
  clear hk2 hk3 hk23 k8 e0 e1 e2 e3 e4
  obtain ⟨b, hbe⟩ : ∃ b : Nat, x.via % 2 = b := ⟨(x.via % 2).toNat, by omega⟩
  have hb : b < 2 := by omega
  have q1 : 0 ≤ x.seq % 4 + 3 ∧ x.seq % 4 + 3 ≤ 6 := by omega
  have q2 : 0 ≤ x.met * 3 ∧ x.met * 3 ≤ 765 := by omega
  simp (disch := omega) only [go_sem, ↓reduceIte , f0, f1, f2, f3, f4, g2', g3', g4', hbe]
  intro b11 hb11
  simp (disch := omega) only [go_sem, ↓reduceIte , f0, f1, f2, f3, f4, g2', g3', g4', hbe]
  have k11 : Kp (fun _ => False) nx3 H3 (((H3.new b11 #[.int .u16 0, .int .u16 0] 52).put b11 0 (.int .u16 (x.seq % 4 + 3))).put b11 1 (.int .u16 (x.met * 3))) := (by repeat first | exact Kp.refl _ _ _ | refine Kp.dropT ?_ (.inl (by omega)) | refine Kp.put ?_ (.inl (by omega)) | refine Kp.new ?_ (by omega) | refine Kp.put ?_ (.inr (by omega)) | refine Kp.newO ?_ (by omega) | refine Kp.setO ?_ (.inl (by omega)) | refine Kp.setO ?_ (.inr (by omega)) | refine Kp.trans0 ?_ (by assumption) (by omega) | refine Kp.transS ?_ (by assumption) (by omega) (fun b hb hT => by first | omega | (dsimp only at hT ⊢; omega) | (simp only at hT ⊢; omega))) 
  have c11B : (((H3.new b11 #[.int .u16 0, .int .u16 0] 52).put b11 0 (.int .u16 (x.seq % 4 + 3))).put b11 1 (.int .u16 (x.met * 3))).c b11 0 = some (.int .u16 (x.seq % 4 + 3)) := by simp (disch := omega) only [go_sem, ↓reduceIte ]
  have c11C : (((H3.new b11 #[.int .u16 0, .int .u16 0] 52).put b11 0 (.int .u16 (x.seq % 4 + 3))).put b11 1 (.int .u16 (x.met * 3))).c b11 1 = some (.int .u16 (x.met * 3)) := by simp (disch := omega) only [go_sem, ↓reduceIte ]
  have c8B : (((H3.new b11 #[.int .u16 0, .int .u16 0] 52).put b11 0 (.int .u16 (x.seq % 4 + 3))).put b11 1 (.int .u16 (x.met * 3))).c b8 0 = some (.int .u8 x.p) := by simp (disch := omega) only [go_sem, ↓reduceIte , f0]
  generalize (((H3.new b11 #[.int .u16 0, .int .u16 0] 52).put b11 0 (.int .u16 (x.seq % 4 + 3))).put b11 1 (.int .u16 (x.met * 3))) = N at k11 c11B c11C c8B ⊢
  have sN := s3.still (nx2 := b11 + 1) k11 (by omega)
  by_cases hl4 : x.lat % 5 = 4
  · have s1 : (N.c b11 1).isSome = true := by rw [c11C]; rfl
    have kP : Kp (fun b => b = b11) (b11 + 1) N (N.put b11 1 (.int .u16 65535)) := (by repeat first | exact Kp.refl _ _ _ | refine Kp.dropT ?_ (.inl (by omega)) | refine Kp.put ?_ (.inl (by omega)) | refine Kp.new ?_ (by omega) | refine Kp.put ?_ (.inr (by omega)) | refine Kp.newO ?_ (by omega) | refine Kp.setO ?_ (.inl (by omega)) | refine Kp.setO ?_ (.inr (by omega)) | refine Kp.trans0 ?_ (by assumption) (by omega) | refine Kp.transS ?_ (by assumption) (by omega) (fun b hb hT => by first | omega | (dsimp only at hT ⊢; omega) | (simp only at hT ⊢; omega))) 
    have k12 : Kp (fun _ => False) nx3 H3 (N.put b11 1 (.int .u16 65535)) := (k11.trans (U := fun b => b = b11) (nx' := b11 + 1) kP (by omega) (fun _ _ h => h.elim) (fun _ _ h => h)).mono (Nat.le_refl _) (fun b hb h => by omega)
    have sP := s3.still (nx2 := b11 + 1) k12 (by omega)
    have c11M : (N.put b11 1 (.int .u16 65535)).c b11 0 = some (.int .u16 (x.seq % 4 + 3)) := by simp (disch := omega) only [go_sem, ↓reduceIte , c11B]
    have c11N : (N.put b11 1 (.int .u16 65535)).c b11 1 = some (.int .u16 65535) := by simp (disch := omega) only [go_sem, ↓reduceIte ]
    have c8M : (N.put b11 1 (.int .u16 65535)).c b8 0 = some (.int .u8 x.p) := by simp (disch := omega) only [go_sem, ↓reduceIte , c8B]
    have l11 : loadN (N.put b11 1 (.int .u16 65535)) b11 0 2 = some [.int .u16 (x.seq % 4 + 3), .int .u16 65535] := by simp (disch := omega) only [go_sem, ↓reduceIte , c11M, c11N]
    simp (disch := omega) only [go_sem, ↓reduceIte , hl4, s1]
    generalize N.put b11 1 (.int .u16 65535) = N2 at sP c11M c11N c8M l11 ⊢
    clear kP k12 sN
    have saM := sa.step sP
    have stM := st.trans sP
    have t0 : (N2.c b6 (b * 36 + k * 2)).isSome = true := by rw [saM.cT _ (by omega)]; rfl
    have t1 : (N2.c b6 (b * 36 + k * 2 + 1)).isSome = true := by rw [saM.cT _ (by omega)]; rfl
    have hl6 := saM.l6
    have hg6 := saM.g6
    have hlo6 : lo ≤ b6 := by omega
    have n68 : b8 ≠ b6 := by have := sa.l6; omega
    have n611 : b11 ≠ b6 := by have := sa.l6; omega
    have hT := SnkA.told (b := b) (k := k) stM hlo saM (x.seq % 4 + 3) 65535 (by omega)
    refine awp_draw ord6x16 (by kernel_rfl) ?_
    simp (disch := omega) only [go_sem, ↓reduceIte , ord6x16, l11, t0, t1]
    refine ⟨dkeep_last (by kernel_rfl), ?_⟩
    refine sinks_hear (b8 := b8) (b11 := b11) (p := x.p) (k := k) (b := b) (s := x.seq % 4 + 3) (m := 65535) hlo hT.1 hE hit hn hT.2 hold op hb hfk hk18 (by omega) (by omega) (by simp (disch := omega) only [go_sem, ↓reduceIte , c8M]) (by simp (disch := omega) only [go_sem, ↓reduceIte , c11M]) (by simp (disch := omega) only [go_sem, ↓reduceIte , c11N]) ?_
    exact fun e' H' nx' y' col' W' Hs' a1 a2 a3 a4 rest' => hK e' H' nx' y' col' W' Hs' _ a1 a2 a3 a4 rest'
  · have c11M := c11B
    have c11N := c11C
    have c8M := c8B
    have l11 : loadN N b11 0 2 = some [.int .u16 (x.seq % 4 + 3), .int .u16 (x.met * 3)] := by simp (disch := omega) only [go_sem, ↓reduceIte , c11M, c11N]
    simp (disch := omega) only [go_sem, ↓reduceIte , hl4]
    have saM := sa.step sN
    have stM := st.trans sN
    have t0 : (N.c b6 (b * 36 + k * 2)).isSome = true := by rw [saM.cT _ (by omega)]; rfl
    have t1 : (N.c b6 (b * 36 + k * 2 + 1)).isSome = true := by rw [saM.cT _ (by omega)]; rfl
    have hl6 := saM.l6
    have hg6 := saM.g6
    have hlo6 : lo ≤ b6 := by omega
    have n68 : b8 ≠ b6 := by have := sa.l6; omega
    have n611 : b11 ≠ b6 := by have := sa.l6; omega
    have hT := SnkA.told (b := b) (k := k) stM hlo saM (x.seq % 4 + 3) (x.met * 3) (by omega)
    refine awp_draw ord6x16 (by kernel_rfl) ?_
    simp (disch := omega) only [go_sem, ↓reduceIte , ord6x16, l11, t0, t1]
    refine ⟨dkeep_last (by kernel_rfl), ?_⟩
    refine sinks_hear (b8 := b8) (b11 := b11) (p := x.p) (k := k) (b := b) (s := x.seq % 4 + 3) (m := (x.met * 3)) hlo hT.1 hE hit hn hT.2 hold op hb hfk hk18 (by omega) (by omega) (by simp (disch := omega) only [go_sem, ↓reduceIte , c8M]) (by simp (disch := omega) only [go_sem, ↓reduceIte , c11M]) (by simp (disch := omega) only [go_sem, ↓reduceIte , c11N]) ?_
    exact fun e' H' nx' y' col' W' Hs' a1 a2 a3 a4 rest' => hK e' H' nx' y' col' W' Hs' _ a1 a2 a3 a4 rest'
end Go.Proofs.YtngnbafididkcaaGreat
