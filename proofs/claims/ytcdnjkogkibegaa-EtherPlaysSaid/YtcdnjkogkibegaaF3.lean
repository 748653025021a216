/- Ether, in our own logic: Take. -/
import Derived.Test.YtcdnjkogkibegaaF2
namespace Go.Proofs.Ytcdnjkogkibegaa
open Go.RowKit
set_option linter.unusedSimpArgs false

theorem pkCells_one {l : List Pkt} (h : ∀ k ∈ l, k.v.oneCell' = true) : ∀ v ∈ pkCells l, v.oneCell' = true := by
  intro v hv
  simp only [pkCells, List.mem_flatMap] at hv
  obtain ⟨k, hk, hv⟩ := hv
  simp only [List.mem_cons, List.not_mem_nil, or_false] at hv
  rcases hv with rfl | rfl | rfl
  · rfl
  · rfl
  · exact h k hk

theorem EtherA.pkOne {lo nx : Nat} {H : AH} {p : Nat} {up : Nat → Nat → Bool} {l : List Pkt} {own : Nat} (h : EtherA lo nx H p up l own) : ∀ v ∈ pkCells l, v.oneCell' = true := pkCells_one fun k hk => (h.pk k hk).1.one

/-- An ether that was written to. -/
theorem EtherA.remade {lo nx nx' : Nat} {H H' : AH} {p : Nat} {up up' : Nat → Nat → Bool} {l l' : List Pkt} {own own' : Nat} {v : Value} (h : EtherA lo nx H p up l own) (hn : nx ≤ nx') (hk : Kp (fun b => b = p ∨ b + 1 = own) nx H H')
    (hup : ∀ a b, a < 16 → b < 16 → H'.c p (16 * a + b) = some (.bool (up' a b))) (hq : H'.c p 256 = some v) (hs : SlA nx' H' 3 v l'.length (pkCells l') own')
    (hw : own' = own ∨ nx < own') (hlo : lo ≤ nx) (hpk : ∀ k ∈ l', k ∈ l ∨ (SlA nx' H' 1 k.v k.bs.length (byteV k.bs) k.own ∧ k.own ≠ p + 1 ∧ (k.own = 0 ∨ k.own ≠ own'))) : EtherA lo nx' H' p up' l' own' := by
  have h1 := h.ow
  have h2 := h.ne
  have hlt := h.lt
  refine ⟨h.ge, by omega, hup, ⟨v, hq, hs⟩, by omega, by omega, fun k hm => ?_⟩
  rcases hpk k hm with hm | hm
  · obtain ⟨g1, g2, g3⟩ := h.pk k hm
    have g4 := g1.le
    refine ⟨g1.kp hk hn (fun b hb => ?_), g2, ?_⟩ <;> omega
  · exact hm

theorem take_none {lo : Nat} {p : Nat} {up : Nat → Nat → Bool} {own : Nat} {H : AH} {nx : Nat} (hE : EtherA lo nx H p up [] own) (i : Int) :
    ACalls Try.prog lo 15 #[.pointer (some ⟨p, 0, none⟩), .int .i64 i] H nx (fun v H' nx' => v = .tuple #[.agg #[.int .i64 0, .int .i64 0, .slice none 0 0], .int .i64 2] ∧ nx ≤ nx' ∧ Kp (fun _ => False) nx H H') := by
  refine ACalls.withLo fun hlo => ?_
  refine acalls_of_awp L15 Try.func15 rfl (by kernel_rfl) ?_
  simp (disch := omega) only [go_sem, ↓reduceIte ]
  intro n hn
  simp (disch := omega) only [go_sem, ↓reduceIte ]
  refine (peek_none (hE.new hn) i).mono fun v H' nx' _ ⟨hv, hx, hk⟩ => ?_
  subst hv
  have hcc := hk.cell0
  simp (disch := omega) only [go_sem, ↓reduceIte ]
  intro m hm
  simp (disch := omega) only [go_sem, ↓reduceIte , hcc]
  exact ⟨by omega, (by repeat first | exact Kp.refl _ _ _ | refine Kp.dropT ?_ (.inl (by omega)) | refine Kp.put ?_ (.inl (by omega)) | refine Kp.new ?_ (by omega) | refine Kp.put ?_ (.inr (by omega)) | refine Kp.trans0 ?_ (by assumption) (by omega) | refine Kp.transS ?_ (by assumption) (by omega) (fun b hb hT => by first | omega | (dsimp only at hT ⊢; omega) | (simp only at hT ⊢; omega))) ⟩

theorem take_some {lo : Nat} {p : Nat} {up : Nat → Nat → Bool} {l : List Pkt} {own : Nat} {H : AH} {nx : Nat} (hE : EtherA lo nx H p up l own) (hl : 0 < l.length) (i : Int) (k : Pkt) (hk : l[atC i l.length]? = some k) (hkl : k.bs.length ≤ 1000000) :
    ACalls Try.prog lo 15 #[.pointer (some ⟨p, 0, none⟩), .int .i64 i] H nx (fun v H' nx' => nx ≤ nx' ∧ Kp (fun b => b = p ∨ b + 1 = own) nx H H' ∧ EtherA lo nx' H' p up (l.take (atC i l.length) ++ l.drop (atC i l.length + 1)) own ∧
      ∃ s own', v = .tuple #[.agg #[.int .i64 k.fr, .int .i64 k.dst, s], .int .i64 0] ∧ SlA nx' H' 1 s k.bs.length (byteV k.bs) own' ∧ (own' = 0 ∨ nx < own')) := by
  refine ACalls.withLo fun hlo => ?_
  refine acalls_of_awp L15 Try.func15 rfl (by kernel_rfl) ?_
  have hat := atC_lt i l.length hl
  obtain ⟨q, hq, hsq⟩ := hE.q
  have hgl := hsq.le
  have hml := hsq.maxLen
  simp only [maxLen] at hml
  have how := hE.ow
  have hne := hE.ne
  have hlt := hE.lt
  have hge := hE.ge
  simp (disch := omega) only [go_sem, ↓reduceIte ]
  intro n hn
  simp (disch := omega) only [go_sem, ↓reduceIte ]
  refine (peek_some (hE.new hn) hl i k hk hkl).mono fun v H1 nx1 _ ⟨hn1, hk1, s, own', hv, hs, ho⟩ => ?_
  subst hv
  have hcc := hk1.cell0
  have hone := hs.one
  simp (disch := omega) only [go_sem, ↓reduceIte ]
  intro m hm
  simp (disch := omega) only [go_sem, ↓reduceIte , hone]
  refine (at_some (l := l) (own := own) (up := up) ?_ hl i).mono fun v H2 nx2 _ ⟨hv, hH, hx⟩ => ?_
  · exact hE.kp (S := fun _ => False) (by repeat first | exact Kp.refl _ _ _ | refine Kp.dropT ?_ (.inl (by omega)) | refine Kp.put ?_ (.inl (by omega)) | refine Kp.new ?_ (by omega) | refine Kp.put ?_ (.inr (by omega)) | refine Kp.trans0 ?_ (by assumption) (by omega) | refine Kp.transS ?_ (by assumption) (by omega) (fun b hb hT => by first | omega | (dsimp only at hT ⊢; omega) | (simp only at hT ⊢; omega)))  (by omega) (by simp) (by simp) (by simp)
  subst hv; subst hx
  have hE2 : EtherA lo (m + 1) H2 p up l own := by rw [hH]; exact hE.kp (S := fun _ => False) (by repeat first | exact Kp.refl _ _ _ | refine Kp.dropT ?_ (.inl (by omega)) | refine Kp.put ?_ (.inl (by omega)) | refine Kp.new ?_ (by omega) | refine Kp.put ?_ (.inr (by omega)) | refine Kp.trans0 ?_ (by assumption) (by omega) | refine Kp.transS ?_ (by assumption) (by omega) (fun b hb hT => by first | omega | (dsimp only at hT ⊢; omega) | (simp only at hT ⊢; omega)))  (by omega) (by simp) (by simp) (by simp)
  have hsq2 : SlA (m + 1) H2 3 q l.length (pkCells l) own := by rw [hH]; exact hsq.kp (S := fun _ => False) (by repeat first | exact Kp.refl _ _ _ | refine Kp.dropT ?_ (.inl (by omega)) | refine Kp.put ?_ (.inl (by omega)) | refine Kp.new ?_ (by omega) | refine Kp.put ?_ (.inr (by omega)) | refine Kp.trans0 ?_ (by assumption) (by omega) | refine Kp.transS ?_ (by assumption) (by omega) (fun b hb hT => by first | omega | (dsimp only at hT ⊢; omega) | (simp only at hT ⊢; omega)))  (by omega) (by simp)
  subst hH
  simp (disch := omega) only [go_sem, ↓reduceIte , hq, hcc]
  have hd := delPk_c hsq2 hE2.pkOne hE.ow (atC i l.length) (atC i l.length + 1) (by omega) (by omega)
  rw [Int.natCast_add, Int.natCast_one] at hd
  refine hd.mono fun v3 H3 nx3 _ ⟨hx3, hk3, hs3⟩ => ?_
  subst hx3
  have hone3 := hs3.one
  have hc3 := hk3.cell
  simp (disch := omega) only [go_sem, ↓reduceIte , hq, hcc, hc3, hone3]
  refine ⟨hone, by omega, (by repeat first | exact Kp.refl _ _ _ | refine Kp.dropT ?_ (.inl (by omega)) | refine Kp.put ?_ (.inl (by omega)) | refine Kp.new ?_ (by omega) | refine Kp.put ?_ (.inr (by omega)) | refine Kp.trans0 ?_ (by assumption) (by omega) | refine Kp.transS ?_ (by assumption) (by omega) (fun b hb hT => by first | omega | (dsimp only at hT ⊢; omega) | (simp only at hT ⊢; omega))) , ?_, s, own', rfl, ?_, by omega⟩
  · refine hE.remade (by omega) (by repeat first | exact Kp.refl _ _ _ | refine Kp.dropT ?_ (.inl (by omega)) | refine Kp.put ?_ (.inl (by omega)) | refine Kp.new ?_ (by omega) | refine Kp.put ?_ (.inr (by omega)) | refine Kp.trans0 ?_ (by assumption) (by omega) | refine Kp.transS ?_ (by assumption) (by omega) (fun b hb hT => by first | omega | (dsimp only at hT ⊢; omega) | (simp only at hT ⊢; omega)))  (fun a b ha hb => ?_) (v := v3) ?_ (by repeat first | assumption | refine SlA.dropT ?_ | refine SlA.put ?_ (by omega) | refine SlA.new ?_ (by omega)) (.inl rfl) hlo (fun k hk => .inl ?_)
    · simp (disch := omega) only [go_sem, ↓reduceIte , hc3, hcc]
      exact hE.up a b ha hb
    · simp (disch := omega) only [go_sem, ↓reduceIte ]
    · rcases List.mem_append.1 hk with hk | hk
      · exact List.mem_of_mem_take hk
      · exact List.mem_of_mem_drop hk
  · exact hs.kp (S := fun b => b = p ∨ b + 1 = own ∨ b = n) (by repeat first | exact Kp.refl _ _ _ | refine Kp.dropT ?_ (.inl (by omega)) | refine Kp.put ?_ (.inl (by omega)) | refine Kp.new ?_ (by omega) | refine Kp.put ?_ (.inr (by omega)) | refine Kp.trans0 ?_ (by assumption) (by omega) | refine Kp.transS ?_ (by assumption) (by omega) (fun b hb hT => by first | omega | (dsimp only at hT ⊢; omega) | (simp only at hT ⊢; omega)))  (by omega) (by intro b hb; omega)
end Go.Proofs.Ytcdnjkogkibegaa
