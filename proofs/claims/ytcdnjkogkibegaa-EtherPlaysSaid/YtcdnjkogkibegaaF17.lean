/- EtherPlays: a packet comes, or is lost. -/
import Derived.Test.YtcdnjkogkibegaaF16
namespace Go.Proofs.Ytcdnjkogkibegaa
open Go.RowKit
set_option linter.unusedSimpArgs false

set_option maxHeartbeats 8000000 in
theorem sw_lose {lo nx0 : Nat} {H0 : AH} {g off n c i a b x p4 : Nat} {act : Act19} {H : AH} {nx : Nat} {up : Nat → Nat → Bool} {l l2 : List Pkt} {own own5 : Nat} {v5 : Value} {k : Int} {rest0 : Env} {K : Env → AH → Nat → Prop} {Q : Exit → Env → AH → Nat → Prop}
    (h : SwIn lo nx0 H0 g off n i a b x p4 act H nx up l l2 own own5 v5) (hact : act.k % 9 = 7) (hkk : 0 < l.length → k = atC act.i l.length)
    (hK : ∀ env' H' nx', plR lo nx0 H0 (.slice (some ⟨g, off, none⟩) n c) x p4 i a b (5 * i + 5) env' H' nx' → K env' H' nx')
    (hQ : ∀ env' H' nx', plR lo nx0 H0 (.slice (some ⟨g, off, none⟩) n c) x p4 i a b (5 * i + 5) env' H' nx' → Q (.exit 1) env' H' nx') :
    awp Try.prog lo L7 playSw (thenQ K Q) (swEnv g off n c i a b x p4 v5 k rest0) H nx := by
  have h' := h
  obtain ⟨hP, hk, hx, lo0, gx, g4, hg, c0, c3, k0, k1, ho, ho5, ha, hb, hi, hn, hl⟩ := h
  have hc := hk.cell0
  have hlt4 := hP.lt4
  have hltx := hP.hE.lt
  have hn4 := hP.n4
  have hlen := hP.len
  have hle5 := hP.hs.le
  obtain ⟨sa, sc, rfl⟩ := hP.hs.form
  unfold playSw playBody Try.f7 swEnv
  simp only [Option.getD_some, codeHd, codeTl, codeIn]
  by_cases h0 : l.length = 0
  · have e1 : l = [] := List.eq_nil_of_length_eq_zero h0
    have e2 : l2.length = 0 := by omega
    subst e1
    simp (disch := omega) only [go_sem, ↓reduceIte , hc, c0, c3]
    refine (peek_none hP.hE act.i).mono fun v H1 nx1 _ ⟨hv, hx1, hk1⟩ => ?_
    subst hv
    simp (disch := omega) only [go_sem, ↓reduceIte ]
    intro d hd
    simp (disch := omega) only [go_sem, ↓reduceIte , e2]
    have hP' := hP.kp (nx' := d + 1) (H' := ((((H1.new d #[.int .i64 0, .int .i64 0, .slice none 0 0] 36).put d 0 (.int .i64 0)).put d 1 (.int .i64 0)).put d (1 + 1) (.slice none 0 0))) (by repeat first | exact Kp.refl _ _ _ | refine Kp.dropT ?_ (.inl (by omega)) | refine Kp.put ?_ (.inl (by omega)) | refine Kp.new ?_ (by omega) | refine Kp.put ?_ (.inr (by omega)) | refine Kp.trans0 ?_ (by assumption) (by omega) | refine Kp.transS ?_ (by assumption) (by omega) (fun b hb hT => by first | omega | (dsimp only at hT ⊢; omega) | (simp only at hT ⊢; omega)))  (by omega)
    rw [e2] at hP'
    exact hQ _ _ _ ⟨up, [], l2, own, own5, _, _, ⟨rfl, by omega, (by repeat first | exact Kp.refl _ _ _ | refine Kp.dropT ?_ (.inl (by omega)) | refine Kp.put ?_ (.inl (by omega)) | refine Kp.new ?_ (by omega) | refine Kp.put ?_ (.inr (by omega)) | refine Kp.trans0 ?_ (by assumption) (by omega) | refine Kp.transS ?_ (by assumption) (by omega) (fun b hb hT => by first | omega | (dsimp only at hT ⊢; omega) | (simp only at hT ⊢; omega))) , hP', ho, ho5, by simp⟩⟩
  · obtain ⟨k1', k2, hk1, hk2, f1, f2, f3, f4⟩ := hP.at (atC_lt act.i l.length (by omega))
    have hkq := hkk (by omega)
    subst hkq
    have hat := atC_lt act.i l.length (by omega)
    have hEle := hP.hE.q.choose_spec.2.le
    simp (disch := omega) only [go_sem, ↓reduceIte , hc, c0, c3]
    refine (peek_some hP.hE (by omega) act.i k1' hk1 (by omega)).mono fun v H1 nx1 _ ⟨hx1, hkp1, s1, own1, hv, hs1, ho1⟩ => ?_
    subst hv
    simp (disch := omega) only [go_sem, ↓reduceIte ]
    intro d hd
    obtain ⟨a1, cc1, rfl⟩ := hs1.form
    have hc1 := hkp1.cell0
    have hle1 := hs1.le
    have hP2 := hP.kp (nx' := d + 1) (H' := (((H1.new d #[.int .i64 0, .int .i64 0, .slice none 0 0] 36).put d 0 (.int .i64 k1'.fr)).put d 1 (.int .i64 k1'.dst)).put d (1 + 1) (.slice a1 k1'.bs.length cc1)) (by repeat first | exact Kp.refl _ _ _ | refine Kp.dropT ?_ (.inl (by omega)) | refine Kp.put ?_ (.inl (by omega)) | refine Kp.new ?_ (by omega) | refine Kp.put ?_ (.inr (by omega)) | refine Kp.trans0 ?_ (by assumption) (by omega) | refine Kp.transS ?_ (by assumption) (by omega) (fun b hb hT => by first | omega | (dsimp only at hT ⊢; omega) | (simp only at hT ⊢; omega)))  (by omega)
    have hs2 := hs1.kp (S := fun _ => False) (nx' := d + 1) (H' := (((H1.new d #[.int .i64 0, .int .i64 0, .slice none 0 0] 36).put d 0 (.int .i64 k1'.fr)).put d 1 (.int .i64 k1'.dst)).put d (1 + 1) (.slice a1 k1'.bs.length cc1)) (by repeat first | exact Kp.refl _ _ _ | refine Kp.dropT ?_ (.inl (by omega)) | refine Kp.put ?_ (.inl (by omega)) | refine Kp.new ?_ (by omega) | refine Kp.put ?_ (.inr (by omega)) | refine Kp.trans0 ?_ (by assumption) (by omega) | refine Kp.transS ?_ (by assumption) (by omega) (fun b hb hT => by first | omega | (dsimp only at hT ⊢; omega) | (simp only at hT ⊢; omega)))  (by omega) (by simp)
    simp (disch := omega) only [go_sem, ↓reduceIte , hc1, hc, c0, c3]
    refine (lose_some hP2.hE (by omega) act.i k1' hk1 (by omega)).mono fun v H3 nx3 _ ⟨hv, hx3, hkp3, hE3⟩ => ?_
    subst hv
    have hc3 := hkp3.cell
    simp (disch := omega) only [go_sem, ↓reduceIte ]
    have fin := sw_tail (K := K) (Q := Q) (n := n) (c := c) (rest := [(102, .bool false)]) (k1' := k1') (d := d) h' hat hk2 f1 f2 f3 (by omega) (H9 := H3) (nx9 := nx3) (by repeat first | exact Kp.refl _ _ _ | refine Kp.dropT ?_ (.inl (by omega)) | refine Kp.put ?_ (.inl (by omega)) | refine Kp.new ?_ (by omega) | refine Kp.put ?_ (.inr (by omega)) | refine Kp.trans0 ?_ (by assumption) (by omega) | refine Kp.transS ?_ (by assumption) (by omega) (fun b hb hT => by first | omega | (dsimp only at hT ⊢; omega) | (simp only at hT ⊢; omega)))  hE3 (hs2.kp hkp3 hx3 (by intro b hb; omega)) (by simp (disch := omega) only [go_sem, ↓reduceIte , hc3]) (by simp (disch := omega) only [go_sem, ↓reduceIte , hc3]) (by simp (disch := omega) only [go_sem, ↓reduceIte , hc3]) hK
    unfold playEnd playSw playBody Try.f7 at fin
    simp only [Option.getD_some, codeHd, codeTl, codeIn, codePart, awp_seq] at fin
    exact fin
end Go.Proofs.Ytcdnjkogkibegaa
