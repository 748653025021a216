/- EtherPlays: a packet comes. -/
import Derived.Test.YtcdnjkogkibegaaF16
namespace Go.Proofs.Ytcdnjkogkibegaa
open Go.RowKit
set_option linter.unusedSimpArgs false

set_option maxHeartbeats 8000000 in
theorem sw_take {lo nx0 : Nat} {H0 : AH} {g off n c i a b x p4 : Nat} {act : Act19} {H : AH} {nx : Nat} {up : Nat → Nat → Bool} {l l2 : List Pkt} {own own5 : Nat} {v5 : Value} {k : Int} {rest0 : Env} {K : Env → AH → Nat → Prop} {Q : Exit → Env → AH → Nat → Prop}
    (h : SwIn lo nx0 H0 g off n i a b x p4 act H nx up l l2 own own5 v5) (hact : act.k % 9 = 5 ∨ act.k % 9 = 6) (hkk : 0 < l.length → k = atC act.i l.length)
    (hK : ∀ env' H' nx', plR lo nx0 H0 (.slice (some ⟨g, off, none⟩) n c) x p4 i a b (5 * i + 5) env' H' nx' → K env' H' nx')
    (hQ : ∀ env' H' nx', plR lo nx0 H0 (.slice (some ⟨g, off, none⟩) n c) x p4 i a b (5 * i + 5) env' H' nx' → Q (.exit 1) env' H' nx') :
    awp Try.prog lo L7 playSw (thenQ K Q) (swEnv g off n c i a b x p4 v5 k rest0) H nx := by
  have h' := h
  obtain ⟨hP, hk, hx, lo0, gx, g4, hg, c0, c3, k0, k1, ho, ho5, ha, hb, hi, hn, hl⟩ := h
  have hc := hk.cell0
  have hlt4 := hP.lt4
  have hltx := hP.hE.lt
  have hn4 := hP.n4
  have hlen := hP.len
  have hle5 := hP.hs.le
  obtain ⟨sa, sc, rfl⟩ := hP.hs.form
  unfold playSw playBody Try.f7 swEnv
  simp only [Option.getD_some, codeHd, codeTl, codeIn]
  by_cases h0 : l.length = 0
  · have e1 : l = [] := List.eq_nil_of_length_eq_zero h0
    have e2 : l2.length = 0 := by omega
    subst e1
    simp (disch := omega) only [go_sem, ↓reduceIte , hc, c0, c3]
    refine (peek_none hP.hE act.i).mono fun v H1 nx1 _ ⟨hv, hx1, hk1⟩ => ?_
    subst hv
    simp (disch := omega) only [go_sem, ↓reduceIte ]
    intro d hd
    simp (disch := omega) only [go_sem, ↓reduceIte , e2]
    have hP' := hP.kp (nx' := d + 1) (H' := ((((H1.new d #[.int .i64 0, .int .i64 0, .slice none 0 0] 36).put d 0 (.int .i64 0)).put d 1 (.int .i64 0)).put d (1 + 1) (.slice none 0 0))) (by repeat first | exact Kp.refl _ _ _ | refine Kp.dropT ?_ (.inl (by omega)) | refine Kp.put ?_ (.inl (by omega)) | refine Kp.new ?_ (by omega) | refine Kp.put ?_ (.inr (by omega)) | refine Kp.trans0 ?_ (by assumption) (by omega) | refine Kp.transS ?_ (by assumption) (by omega) (fun b hb hT => by first | omega | (dsimp only at hT ⊢; omega) | (simp only at hT ⊢; omega)))  (by omega)
    rw [e2] at hP'
    exact hQ _ _ _ ⟨up, [], l2, own, own5, _, _, ⟨rfl, by omega, (by repeat first | exact Kp.refl _ _ _ | refine Kp.dropT ?_ (.inl (by omega)) | refine Kp.put ?_ (.inl (by omega)) | refine Kp.new ?_ (by omega) | refine Kp.put ?_ (.inr (by omega)) | refine Kp.trans0 ?_ (by assumption) (by omega) | refine Kp.transS ?_ (by assumption) (by omega) (fun b hb hT => by first | omega | (dsimp only at hT ⊢; omega) | (simp only at hT ⊢; omega))) , hP', ho, ho5, by simp⟩⟩
  · obtain ⟨k1', k2, hk1, hk2, f1, f2, f3, f4⟩ := hP.at (atC_lt act.i l.length (by omega))
    have hkq := hkk (by omega)
    subst hkq
    have hat := atC_lt act.i l.length (by omega)
    have hEle := hP.hE.q.choose_spec.2.le
    simp (disch := omega) only [go_sem, ↓reduceIte , hc, c0, c3]
    refine (peek_some hP.hE (by omega) act.i k1' hk1 (by omega)).mono fun v H1 nx1 _ ⟨hx1, hkp1, s1, own1, hv, hs1, ho1⟩ => ?_
    subst hv
    simp (disch := omega) only [go_sem, ↓reduceIte ]
    intro d hd
    obtain ⟨a1, cc1, rfl⟩ := hs1.form
    have hc1 := hkp1.cell0
    have hle1 := hs1.le
    have hP2 := hP.kp (nx' := d + 1) (H' := (((H1.new d #[.int .i64 0, .int .i64 0, .slice none 0 0] 36).put d 0 (.int .i64 k1'.fr)).put d 1 (.int .i64 k1'.dst)).put d (1 + 1) (.slice a1 k1'.bs.length cc1)) (by repeat first | exact Kp.refl _ _ _ | refine Kp.dropT ?_ (.inl (by omega)) | refine Kp.put ?_ (.inl (by omega)) | refine Kp.new ?_ (by omega) | refine Kp.put ?_ (.inr (by omega)) | refine Kp.trans0 ?_ (by assumption) (by omega) | refine Kp.transS ?_ (by assumption) (by omega) (fun b hb hT => by first | omega | (dsimp only at hT ⊢; omega) | (simp only at hT ⊢; omega)))  (by omega)
    have hs2 := hs1.kp (S := fun _ => False) (nx' := d + 1) (H' := (((H1.new d #[.int .i64 0, .int .i64 0, .slice none 0 0] 36).put d 0 (.int .i64 k1'.fr)).put d 1 (.int .i64 k1'.dst)).put d (1 + 1) (.slice a1 k1'.bs.length cc1)) (by repeat first | exact Kp.refl _ _ _ | refine Kp.dropT ?_ (.inl (by omega)) | refine Kp.put ?_ (.inl (by omega)) | refine Kp.new ?_ (by omega) | refine Kp.put ?_ (.inr (by omega)) | refine Kp.trans0 ?_ (by assumption) (by omega) | refine Kp.transS ?_ (by assumption) (by omega) (fun b hb hT => by first | omega | (dsimp only at hT ⊢; omega) | (simp only at hT ⊢; omega)))  (by omega) (by simp)
    simp (disch := omega) only [go_sem, ↓reduceIte , hc1, hc, c0, c3]
    refine (take_some hP2.hE (by omega) act.i k1' hk1 (by omega)).mono fun v H3 nx3 _ ⟨hx3, hkp3, hE3, s3, own3, hv, hs3, ho3⟩ => ?_
    subst hv
    have hc3 := hkp3.cell
    obtain ⟨a3, cc3, rfl⟩ := hs3.form
    have d0 : H3.c d 0 = some (.int .i64 k1'.fr) := by simp (disch := omega) only [go_sem, ↓reduceIte , hc3]
    have d1 : H3.c d 1 = some (.int .i64 k1'.dst) := by simp (disch := omega) only [go_sem, ↓reduceIte , hc3]
    have d2 : H3.c d 2 = some (.slice a1 k1'.bs.length cc1) := by simp (disch := omega) only [go_sem, ↓reduceIte , hc3]
    have hk13 : Kp (fun b => b = x ∨ b + 1 = own) nx H H3 := (by repeat first | exact Kp.refl _ _ _ | refine Kp.dropT ?_ (.inl (by omega)) | refine Kp.put ?_ (.inl (by omega)) | refine Kp.new ?_ (by omega) | refine Kp.put ?_ (.inr (by omega)) | refine Kp.trans0 ?_ (by assumption) (by omega) | refine Kp.transS ?_ (by assumption) (by omega) (fun b hb hT => by first | omega | (dsimp only at hT ⊢; omega) | (simp only at hT ⊢; omega))) 
    have hs23 := hs2.kp hkp3 hx3 (by intro b hb; omega)
    clear hc3 hkp3 hs2 hP2
    simp (disch := omega) only [go_sem, ↓reduceIte ]
    intro e he
    simp (disch := omega) only [go_sem, ↓reduceIte , d0, d1, d2]
    have hk4 : Kp (fun _ => False) nx3 H3 ((((H3.new e #[.int .i64 0, .int .i64 0, .slice none 0 0] 36).put e 0 (.int .i64 k1'.fr)).put e 1 (.int .i64 k1'.dst)).put e (1 + 1) (.slice a3 k1'.bs.length cc3)) := (by repeat first | exact Kp.refl _ _ _ | refine Kp.dropT ?_ (.inl (by omega)) | refine Kp.put ?_ (.inl (by omega)) | refine Kp.new ?_ (by omega) | refine Kp.put ?_ (.inr (by omega)) | refine Kp.trans0 ?_ (by assumption) (by omega) | refine Kp.transS ?_ (by assumption) (by omega) (fun b hb hT => by first | omega | (dsimp only at hT ⊢; omega) | (simp only at hT ⊢; omega))) 
    have hs34 := hs3.kp hk4 (nx' := e + 1) (by omega) (by simp)
    have hs24 := hs23.kp hk4 (nx' := e + 1) (by omega) (by simp)
    have hE4 := hE3.kp hk4 (nx' := e + 1) (by omega) (by simp) (by simp) (by simp)
    rw [convQ_bytes sl34 (by kernel_rfl) (by kernel_rfl) hs34]
    simp (disch := omega) only [go_sem, ↓reduceIte , d2]
    rw [convQ_bytes sl34 (by kernel_rfl) (by kernel_rfl) hs24]
    simp (disch := omega) only [go_sem, ↓reduceIte , eq_self]
    have fin := sw_tail (K := K) (Q := Q) (n := n) (c := c) (rest := [(137, .bool false)]) (k1' := k1') (d := d) h' hat hk2 f1 f2 f3 (by omega) (nx9 := e + 1) (by repeat first | exact Kp.refl _ _ _ | refine Kp.dropT ?_ (.inl (by omega)) | refine Kp.put ?_ (.inl (by omega)) | refine Kp.new ?_ (by omega) | refine Kp.put ?_ (.inr (by omega)) | refine Kp.trans0 ?_ (by assumption) (by omega) | refine Kp.transS ?_ (by assumption) (by omega) (fun b hb hT => by first | omega | (dsimp only at hT ⊢; omega) | (simp only at hT ⊢; omega)))  hE4 hs24 (by simp (disch := omega) only [go_sem, ↓reduceIte , d0]) (by simp (disch := omega) only [go_sem, ↓reduceIte , d1]) (by simp (disch := omega) only [go_sem, ↓reduceIte , d2]) hK
    unfold playEnd playSw playBody Try.f7 at fin
    simp only [Option.getD_some, codeHd, codeTl, codeIn, codePart, awp_seq] at fin
    exact fin
end Go.Proofs.Ytcdnjkogkibegaa
