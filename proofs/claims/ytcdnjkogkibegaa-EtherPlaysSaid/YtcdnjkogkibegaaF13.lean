/- EtherPlays: two hear each other, or don't. -/
import Derived.Test.YtcdnjkogkibegaaF12
namespace Go.Proofs.Ytcdnjkogkibegaa
open Go.RowKit
set_option linter.unusedSimpArgs false

/-- What is known where an act begins. -/
structure SwIn (lo nx0 : Nat) (H0 : AH) (g off n i a b x p4 : Nat) (act : Act19) (H : AH) (nx : Nat) (up : Nat → Nat → Bool) (l l2 : List Pkt) (own own5 : Nat) (v5 : Value) : Prop where
  hP : PlA lo nx H x p4 up l l2 own own5 v5
  hk : Kp (fun _ => False) nx0 H0 H
  hx : nx0 ≤ nx
  lo0 : lo ≤ nx0
  gx : nx0 ≤ x
  g4 : nx0 ≤ p4
  hg : g < nx0
  c0 : H0.c g (off + i * 4) = some (.int .u8 act.k)
  c3 : H0.c g (off + i * 4 + 3) = some (.int .i64 act.i)
  k0 : 0 ≤ act.k
  k1 : act.k ≤ 255
  ho : own = 0 ∨ nx0 < own
  ho5 : own5 = 0 ∨ nx0 < own5
  ha : a < 5
  hb : b < 5
  hi : i < n
  hn : n ≤ 80
  hl : l.length ≤ 5 * i

def swEnv (g off n c i a b x p4 : Nat) (v5 : Value) (k : Int) (rest : Env) : Env := (0, .slice (some ⟨g, off, none⟩) n c) :: (3, .pointer (some ⟨x, 0, none⟩)) :: (4, .pointer (some ⟨p4, 0, none⟩)) :: (5, v5) :: (6, .int .i64 i) :: (7, .int .i64 a) :: (8, .int .i64 b) :: (9, .int .i64 k) :: rest

theorem PlA.join {lo nx : Nat} {H : AH} {x p4 : Nat} {up : Nat → Nat → Bool} {l l2 : List Pkt} {own own5 : Nat} {v5 : Value} (h : PlA lo nx H x p4 up l l2 own own5 v5) {H1 : AH} {a b : Nat} {on : Bool} (ha : a < 5) (hb : b < 5) (hk : Kp (fun b => b = x) nx H H1) (hE : EtherA lo nx H1 x (upC up a b on) l own) :
    PlA lo nx ((H1.put p4 (a * 5 + b) (.bool on)).put p4 (b * 5 + a) (.bool on)) x p4 (upC up a b on) l l2 own own5 v5 := by
  have q1 := h.o4
  have q2 := h.o5x
  have q3 := h.o54
  have q5 := h.n4
  have q6 := h.lt4
  have hk2 : Kp (fun b => b = p4) nx H1 ((H1.put p4 (a * 5 + b) (.bool on)).put p4 (b * 5 + a) (.bool on)) := (by repeat first | exact Kp.refl _ _ _ | refine Kp.dropT ?_ (.inl (by omega)) | refine Kp.put ?_ (.inl (by omega)) | refine Kp.new ?_ (by omega) | refine Kp.put ?_ (.inr (by omega)) | refine Kp.trans0 ?_ (by assumption) (by omega) | refine Kp.transS ?_ (by assumption) (by omega) (fun b hb hT => by first | omega | (dsimp only at hT ⊢; omega) | (simp only at hT ⊢; omega))) 
  refine ⟨hE.kp hk2 (Nat.le_refl _) (by omega) (by intro b hb; omega) (fun k hm b hb => by have := (h.pk1 k hm).1; omega), h.g4, h.lt4, h.n4, fun c d hc hd => ?_, fun c d hcd => ?_, (h.hs.kp hk (Nat.le_refl _) (by intro b hb; omega)).kp hk2 (Nat.le_refl _) (by intro b hb; omega), h.hv, h.hb, h.o4, h.o5x, h.o54, h.o5, h.lo5, h.pk1, fun k hm => ?_⟩
  · by_cases e1 : c = b ∧ d = a
    · obtain ⟨rfl, rfl⟩ := e1
      rw [put_same]
      simp [upC]
    · rw [put_other _ _ _ _ _ (by omega)]
      by_cases e2 : c = a ∧ d = b
      · obtain ⟨rfl, rfl⟩ := e2
        rw [put_same]
        simp [upC]
      · rw [put_other _ _ _ _ _ (by omega), hk.cell _ _ q6 (by omega), h.hup c d hc hd]
        unfold upC
        rw [if_neg (by omega)]
  · unfold upC
    rw [if_neg (by omega)]
    exact h.up0 c d hcd
  · obtain ⟨p1, p2, p3, p4', p5⟩ := h.pk2 k hm
    exact ⟨(p1.kp hk (Nat.le_refl _) (by intro b hb; omega)).kp hk2 (Nat.le_refl _) (by intro b hb; omega), p2, p3, p4', p5⟩

set_option maxHeartbeats 4000000 in
theorem sw_join {lo nx0 : Nat} {H0 : AH} {g off n c i a b x p4 : Nat} {act : Act19} {H : AH} {nx : Nat} {up : Nat → Nat → Bool} {l l2 : List Pkt} {own own5 : Nat} {v5 : Value} {k : Int} {rest0 : Env} {K : Env → AH → Nat → Prop} {Q : Exit → Env → AH → Nat → Prop}
    (h : SwIn lo nx0 H0 g off n i a b x p4 act H nx up l l2 own own5 v5) (hact : act.k % 9 < 3)
    (hK : ∀ env' H' nx', plR lo nx0 H0 (.slice (some ⟨g, off, none⟩) n c) x p4 i a b (5 * i + 5) env' H' nx' → K env' H' nx') :
    awp Try.prog lo L7 playSw (thenQ K Q) (swEnv g off n c i a b x p4 v5 k rest0) H nx := by
  obtain ⟨hP, hk, hx, lo0, gx, g4, hg, c0, c3, k0, k1, ho, ho5, ha, hb, hi, hn, hl⟩ := h
  have hc := hk.cell0
  have hlt4 := hP.lt4
  have hltx := hP.hE.lt
  have hn4 := hP.n4
  have hsome : ∀ c d, c < 5 → d < 5 → (H.c p4 (c * 5 + d)).isSome = true := fun c d hc hd => by rw [hP.hup c d hc hd]; rfl
  unfold playSw playBody Try.f7 swEnv
  simp only [Option.getD_some, codeHd, codeTl, codeIn]
  obtain ⟨on, hon⟩ : ∃ on : Bool, on = decide (act.k % 9 < 2) := ⟨_, rfl⟩
  by_cases hab : a = b
  · have e : act.k % 9 = 0 ∨ act.k % 9 = 1 ∨ act.k % 9 = 2 := by omega
    rcases e with e | e | e
    all_goals
      simp (disch := omega) only [go_sem, ↓reduceIte , hc, c0, e]
      refine (join_bad hP.hE a b _ (by simp [hab])).mono fun v H1 nx1 _ ⟨hv, hH, hx1⟩ => ?_
      subst hv; subst hH; subst hx1
      simp (disch := omega) only [go_sem, ↓reduceIte ]
      exact hK _ _ _ ⟨up, l, l2, own, own5, v5, _, ⟨rfl, hx, hk, hP, ho, ho5, by omega⟩⟩
  · have e : act.k % 9 = 0 ∨ act.k % 9 = 1 ∨ act.k % 9 = 2 := by omega
    rcases e with e | e | e
    all_goals
      simp (disch := omega) only [go_sem, ↓reduceIte , hc, c0, e]
      refine (join_ok hP.hE a b _ (by omega) (by omega) hab).mono fun v H1 nx1 _ ⟨hv, hx1, hk1, hE1⟩ => ?_
      subst hv; subst hx1
      have hc1 := hk1.cell
      have s1 : (H1.c p4 (a * 5 + b)).isSome = true := by rw [hc1 _ _ hlt4 (by omega)]; exact hsome a b ha hb
      have s2 : (H1.c p4 (b * 5 + a)).isSome = true := by rw [hc1 _ _ hlt4 (by omega)]; exact hsome b a hb ha
      simp (disch := omega) only [go_sem, ↓reduceIte , s1, s2]
      exact hK _ _ _ ⟨_, l, l2, own, own5, v5, _, ⟨rfl, hx, (by repeat first | exact Kp.refl _ _ _ | refine Kp.dropT ?_ (.inl (by omega)) | refine Kp.put ?_ (.inl (by omega)) | refine Kp.new ?_ (by omega) | refine Kp.put ?_ (.inr (by omega)) | refine Kp.trans0 ?_ (by assumption) (by omega) | refine Kp.transS ?_ (by assumption) (by omega) (fun b hb hT => by first | omega | (dsimp only at hT ⊢; omega) | (simp only at hT ⊢; omega))) , hP.join ha hb hk1 hE1, ho, ho5, by omega⟩⟩
end Go.Proofs.Ytcdnjkogkibegaa
