/- EtherPlays: a packet is doubled. -/
import Derived.Test.YtcdnjkogkibegaaF13
namespace Go.Proofs.Ytcdnjkogkibegaa
open Go.RowKit
set_option linter.unusedSimpArgs false

/-- The same, but that the two tell the same. -/
structure PlB (lo nx : Nat) (H : AH) (x p4 : Nat) (up : Nat → Nat → Bool) (l l2 : List Pkt) (own own5 : Nat) (v5 : Value) : Prop where
  hE : EtherA lo nx H x up l own
  g4 : lo ≤ p4
  lt4 : p4 < nx
  n4 : p4 ≠ x
  hup : ∀ a b, a < 5 → b < 5 → H.c p4 (a * 5 + b) = some (.bool (up a b))
  up0 : ∀ a b, (5 ≤ a ∨ 5 ≤ b) → up a b = false
  hs : SlA nx H 3 v5 l2.length (pkCells l2) own5
  hb : ∀ k ∈ l, k.bs.length = 1
  o4 : own ≠ p4 + 1
  o5x : own5 ≠ x + 1
  o54 : own5 ≠ p4 + 1
  o5 : own5 = 0 ∨ own5 ≠ own
  lo5 : own5 = 0 ∨ lo < own5
  pk1 : ∀ k ∈ l, k.own ≠ p4 + 1 ∧ (k.own = 0 ∨ k.own ≠ own5)
  pk2 : ∀ k ∈ l2, SlA nx H 1 k.v k.bs.length (byteV k.bs) k.own ∧ k.own ≠ x + 1 ∧ k.own ≠ p4 + 1 ∧ (k.own = 0 ∨ k.own ≠ own) ∧ (k.own = 0 ∨ k.own ≠ own5)

/-- The ether alone was written: its block, its list's block. -/
theorem PlA.etherB {lo nx : Nat} {H : AH} {x p4 : Nat} {up : Nat → Nat → Bool} {l l2 : List Pkt} {own own5 : Nat} {v5 : Value} (h : PlA lo nx H x p4 up l l2 own own5 v5) {nx' : Nat} {H' : AH} {l' : List Pkt} {own' : Nat} (hk : Kp (fun b => b = x ∨ b + 1 = own) nx H H') (hn : nx ≤ nx')
    (hE : EtherA lo nx' H' x up l' own') (ho : own' = own ∨ nx < own') (hf : ∀ k ∈ l', k ∈ l ∨ k.own = 0 ∨ nx < k.own) (hb : ∀ k ∈ l', k.bs.length = 1) : PlB lo nx' H' x p4 up l' l2 own' own5 v5 := by
  have q1 := h.o4
  have q2 := h.o5x
  have q3 := h.o54
  have q4 := h.o5
  have q5 := h.n4
  have q6 := h.lt4
  have q7 := h.hs.le
  refine ⟨hE, h.g4, by omega, h.n4, fun a b ha hb => ?_, h.up0, h.hs.kp hk hn (by intro b hb; omega), hb, by omega, h.o5x, h.o54, by omega, h.lo5, fun k hm => ?_, fun k hm => ?_⟩
  · rw [hk.cell _ _ q6 (by omega)]; exact h.hup a b ha hb
  · rcases hf k hm with hm | hm | hm
    · exact h.pk1 k hm
    · exact ⟨by omega, .inl hm⟩
    · exact ⟨by omega, by omega⟩
  · obtain ⟨p1, p2, p3, p4', p5⟩ := h.pk2 k hm
    have p6 := p1.le
    exact ⟨p1.kp hk hn (by intro b hb; omega), p2, p3, by omega, p5⟩

/-- The list that should be was made anew, or written behind its end; new memory besides. -/
theorem PlB.list {lo nx : Nat} {H : AH} {x p4 : Nat} {up : Nat → Nat → Bool} {l l2 : List Pkt} {own own5 : Nat} {v5 : Value} (h : PlB lo nx H x p4 up l l2 own own5 v5) {nx' : Nat} {H' : AH} {l2' : List Pkt} {own5' : Nat} {v5' : Value} (hk : Kp (fun b => b + 1 = own5) nx H H') (hn : nx ≤ nx')
    (hs : SlA nx' H' 3 v5' l2'.length (pkCells l2') own5') (ho : own5' = own5 ∨ nx < own5' ∨ own5' = 0) (hpk : ∀ k ∈ l2', k ∈ l2 ∨ (SlA nx' H' 1 k.v k.bs.length (byteV k.bs) k.own ∧ (k.own = 0 ∨ (nx < k.own ∧ k.own ≠ own5')))) (hlo : lo ≤ nx) :
    EtherA lo nx' H' x up l own ∧ (views l2' = views l → PlA lo nx' H' x p4 up l l2' own own5' v5') := by
  have q1 := h.o4
  have q2 := h.o5x
  have q3 := h.o54
  have q4 := h.o5
  have q5 := h.n4
  have q6 := h.lt4
  have q7 := h.hs.le
  have q8 := h.hE.lt
  have q9 := h.hE.q.choose_spec.2.le
  have q10 := h.lo5
  have hE := h.hE.kp hk hn (by omega) (by intro b hb; omega) (fun k hm b hb => by have := h.pk1 k hm; omega)
  refine ⟨hE, fun hv => ⟨hE, h.g4, by omega, h.n4, fun a b ha hb => ?_, h.up0, hs, hv, h.hb, h.o4, by omega, by omega, by omega, by omega, fun k hm => ?_, fun k hm => ?_⟩⟩
  · rw [hk.cell _ _ q6 (by omega)]; exact h.hup a b ha hb
  · have p1 := (h.hE.pk k hm).1.le
    have p2 := h.pk1 k hm
    exact ⟨p2.1, by omega⟩
  · rcases hpk k hm with hm | ⟨p1, p2⟩
    · obtain ⟨p1, p2, p3, p4', p5⟩ := h.pk2 k hm
      have p6 := p1.le
      exact ⟨p1.kp hk hn (by intro b hb; omega), p2, p3, p4', by omega⟩
    · exact ⟨p1, by omega, by omega, by omega, by omega⟩


theorem pk_load {nx : Nat} {H : AH} {g off c n own : Nat} {l : List Pkt} (hs : SlA nx H 3 (.slice (some ⟨g, off, none⟩) n c) n (pkCells l) own) {i : Nat} {k : Pkt} (hi : l[i]? = some k) : loadN H g (off + i * 3) 3 = some [.int .i64 k.fr, .int .i64 k.dst, k.v] :=
  flat_load (f := fun k : Pkt => [.int .i64 k.fr, .int .i64 k.dst, k.v]) (fun _ => rfl) hs hi

set_option maxHeartbeats 8000000 in
theorem sw_double {lo nx0 : Nat} {H0 : AH} {g off n c i a b x p4 : Nat} {act : Act19} {H : AH} {nx : Nat} {up : Nat → Nat → Bool} {l l2 : List Pkt} {own own5 : Nat} {v5 : Value} {k : Int} {rest0 : Env} {K : Env → AH → Nat → Prop} {Q : Exit → Env → AH → Nat → Prop}
    (h : SwIn lo nx0 H0 g off n i a b x p4 act H nx up l l2 own own5 v5) (hact : act.k % 9 = 8) (hkk : 0 < l.length → k = atC act.i l.length)
    (hK : ∀ env' H' nx', plR lo nx0 H0 (.slice (some ⟨g, off, none⟩) n c) x p4 i a b (5 * i + 5) env' H' nx' → K env' H' nx') :
    awp Try.prog lo L7 playSw (thenQ K Q) (swEnv g off n c i a b x p4 v5 k rest0) H nx := by
  obtain ⟨hP, hk, hx, lo0, gx, g4, hg, c0, c3, k0, k1, ho, ho5, ha, hb, hi, hn, hl⟩ := h
  have hc := hk.cell0
  have hlt4 := hP.lt4
  have hltx := hP.hE.lt
  have hn4 := hP.n4
  have hlen := hP.len
  have hle5 := hP.hs.le
  obtain ⟨sa, sc, rfl⟩ := hP.hs.form
  unfold playSw playBody Try.f7 swEnv
  simp only [Option.getD_some, codeHd, codeTl, codeIn]
  by_cases h0 : l.length = 0
  · have e1 : l = [] := List.eq_nil_of_length_eq_zero h0
    have e2 : l2.length = 0 := by omega
    subst e1
    simp (disch := omega) only [go_sem, ↓reduceIte , hc, c0, c3, hact]
    refine (double_none hP.hE act.i).mono fun v H1 nx1 _ ⟨hv, hx1, hk1⟩ => ?_
    subst hv
    simp (disch := omega) only [go_sem, ↓reduceIte , e2]
    have hP' := hP.kp hk1 hx1
    rw [e2] at hP'
    exact hK _ _ _ ⟨up, [], l2, own, own5, _, _, ⟨rfl, by omega, hk.trans0 hk1 hx, hP', ho, ho5, by simp⟩⟩
  · obtain ⟨k1, k2, hk1, hk2, f1, f2, f3, f4⟩ := hP.at (atC_lt act.i l.length (by omega))
    have hkq := hkk (by omega)
    subst hkq
    have hat := atC_lt act.i l.length (by omega)
    simp (disch := omega) only [go_sem, ↓reduceIte , hc, c0, c3, hact]
    refine (double_some hP.hE (by omega) (by omega) act.i k1 hk1 (by omega)).mono fun v H1 nx1 _ ⟨hv, hx1, hkp1, k', own', hE1, e1, e2, e3, ho', hf'⟩ => ?_
    subst hv
    have hB := hP.etherB hkp1 hx1 hE1 ho' (fun z hz => by
      rcases List.mem_append.1 hz with hz | hz
      · exact .inl hz
      · simp only [List.mem_singleton] at hz; subst hz; exact .inr hf') (fun z hz => by
      rcases List.mem_append.1 hz with hz | hz
      · exact hP.hb z hz
      · simp only [List.mem_singleton] at hz; subst hz; rw [e3]; exact f4)
    have hs1 := hB.hs
    have hle1 := hs1.le
    obtain ⟨g5, off5, cap5, hv5, hg5⟩ := hs1.open (by omega)
    cases hv5
    have hone2 := (hB.pk2 k2 (List.mem_of_getElem? hk2)).1.one
    have hld := pk_load hs1 hk2
    simp (disch := omega) only [go_sem, ↓reduceIte ]
    refine awp_fork ordT7x54 (by kernel_rfl) ?_
    simp (disch := omega) only [go_sem, ↓reduceIte , ordT7x54, hld]
    have hle_own := hP.hE.q.choose_spec.2.le
    have hvw : views (l2 ++ [k2]) = views (l ++ [k']) := by
      have hv1 := hP.hv
      simp only [views] at hv1
      simp [views, hv1, Pkt.view, f1, f2, f3, e1, e2, e3]
    have fin : ∀ (H9 : AH) (nx9 own9 : Nat) (v9 : Value), nx1 ≤ nx9 → Kp (fun _ => False) nx1 H1 H9 → SlA nx9 H9 3 v9 (l2.length + 1) (pkCells l2 ++ pkCells [k2]) own9 → (own9 = 0 ∨ nx1 < own9) → K [(0, .slice (some ⟨g, off, none⟩) n c), (3, .pointer (some ⟨x, 0, none⟩)), (4, .pointer (some ⟨p4, 0, none⟩)), (5, v9), (6, .int .i64 i), (7, .int .i64 a), (8, .int .i64 b)] H9 nx9 := fun H9 nx9 own9 v9 w1 w2 w3 w4 => by
      refine hK _ _ _ ⟨up, l ++ [k'], l2 ++ [k2], own', own9, v9, _, ⟨rfl, by omega, ?_, (hB.list (w2.mono (Nat.le_refl _) (fun _ _ h => h.elim)) w1 (by rw [List.length_append, pkCells_append]; exact w3) (by omega) (fun z hz => .inl ?_) (by omega)).2 hvw, by omega, by omega, by simp; omega⟩⟩
      · exact (hk.trans (U := fun _ => False) hkp1 hx (fun _ _ h => h) (fun b hb h => by omega)).trans0 w2 (by omega)
      · rcases List.mem_append.1 hz with hz | hz
        · exact hz
        · simp only [List.mem_singleton] at hz; subst hz; exact List.mem_of_getElem? hk2
    have hones : ∀ u ∈ pkCells l2, u.oneCell' = true := pkCells_one fun z hz => (hB.pk2 z hz).1.one
    refine ⟨?_, ?_⟩
    · refine appendQ_two (aw_append sl27 zero36 rfl by36 (SlA.nil _ _ _) (hs1.src sl27 hones) (by simp only [maxLen]; omega) (by omega) (.inl rfl) fun v6 H6 nx6 own6 hn6 hs6 ho6 hk6 _ => ?_)
      rw [Nat.zero_add, List.nil_append] at hs6
      have hk6' : Kp (fun _ => False) nx1 H1 H6 := hk6.mono (Nat.le_refl _) (fun b _ h => by omega)
      have hle6 := hs6.le
      simp (disch := omega) only [go_sem, ↓reduceIte ]
      refine ⟨dkeep_kp hk6', ?_⟩
      refine buildSQ_all (n := 1) [.agg #[.int .i64 k2.fr, .int .i64 k2.dst, k2.v]] sl27 zero36 (by omega) (by omega) rfl (by simp [cells_agg]) fun d hd => ?_
      have hlit : SlA (d + 1) _ 3 (.slice (some ⟨d, 0, none⟩) 1 1) 1 (pkCells [k2]) (d + 1) := SlA.ofNew (H := H6) (e := 36) (cs := ([Value.agg #[.int .i64 k2.fr, .int .i64 k2.dst, k2.v]].flatMap fun v => v.cells.toList).toArray) rfl (by omega) (by simp [maxLen]) (by simp [cells_agg]) (fun j _ => by simp [cells_agg, pkCells])
      have hs7 := hs6.new (vs := ([Value.agg #[.int .i64 k2.fr, .int .i64 k2.dst, k2.v]].flatMap fun v => v.cells.toList).toArray) (e := 36) hd
      simp (disch := omega) only [go_sem, ↓reduceIte ]
      refine ⟨dkeep_kp (by repeat first | exact Kp.refl _ _ _ | refine Kp.dropT ?_ (.inl (by omega)) | refine Kp.put ?_ (.inl (by omega)) | refine Kp.new ?_ (by omega) | refine Kp.put ?_ (.inr (by omega)) | refine Kp.trans0 ?_ (by assumption) (by omega) | refine Kp.transS ?_ (by assumption) (by omega) (fun b hb hT => by first | omega | (dsimp only at hT ⊢; omega) | (simp only at hT ⊢; omega))) , ?_⟩
      refine appendQ_two (aw_append sl27 zero36 rfl by36 hs7 (hlit.src sl27 (by simp [pkCells, one_int, hone2])) (by simp only [maxLen]; omega) (by omega) (by omega) fun v8 H8 nx8 own8 hn8 hs8 ho8 hk8 _ => ?_)
      have hk8' : Kp (fun _ => False) nx1 H1 H8 := (hk6'.new (n := d) (vs := ([Value.agg #[.int .i64 k2.fr, .int .i64 k2.dst, k2.v]].flatMap fun v => v.cells.toList).toArray) (e := 36) (by omega)).trans (U := fun _ => False) hk8 (by omega) (fun _ _ h => h) (fun b hb h => by omega)
      simp (disch := omega) only [go_sem, ↓reduceIte ]
      refine ⟨dkeep_kp hk8', ?_⟩
      exact fin _ _ own8 _ (by omega) hk8' hs8 (by omega)
    · refine buildSQ_all (n := 1) [.agg #[.int .i64 k2.fr, .int .i64 k2.dst, k2.v]] sl27 zero36 (by omega) (by omega) rfl (by simp [cells_agg]) fun d hd => ?_
      have hlit : SlA (d + 1) _ 3 (.slice (some ⟨d, 0, none⟩) 1 1) 1 (pkCells [k2]) (d + 1) := SlA.ofNew (H := H1) (e := 36) (cs := ([Value.agg #[.int .i64 k2.fr, .int .i64 k2.dst, k2.v]].flatMap fun v => v.cells.toList).toArray) rfl (by omega) (by simp [maxLen]) (by simp [cells_agg]) (fun j _ => by simp [cells_agg, pkCells])
      have hs7 := hs1.new (vs := ([Value.agg #[.int .i64 k2.fr, .int .i64 k2.dst, k2.v]].flatMap fun v => v.cells.toList).toArray) (e := 36) hd
      simp (disch := omega) only [go_sem, ↓reduceIte ]
      refine ⟨dkeep_kp (by repeat first | exact Kp.refl _ _ _ | refine Kp.dropT ?_ (.inl (by omega)) | refine Kp.put ?_ (.inl (by omega)) | refine Kp.new ?_ (by omega) | refine Kp.put ?_ (.inr (by omega)) | refine Kp.trans0 ?_ (by assumption) (by omega) | refine Kp.transS ?_ (by assumption) (by omega) (fun b hb hT => by first | omega | (dsimp only at hT ⊢; omega) | (simp only at hT ⊢; omega))) , ?_⟩
      refine appendQ_two (aw_append sl27 zero36 rfl by36 (SlA.nil _ _ _) (hs7.src sl27 hones) (by simp only [maxLen]; omega) (by omega) (.inl rfl) fun v6 H6 nx6 own6 hn6 hs6 ho6 hk6 _ => ?_)
      rw [Nat.zero_add, List.nil_append] at hs6
      have hk6f : Kp (fun _ => False) (d + 1) (H1.new d ([Value.agg #[.int .i64 k2.fr, .int .i64 k2.dst, k2.v]].flatMap fun v => v.cells.toList).toArray 36) H6 := hk6.mono (Nat.le_refl _) (fun b _ h => by omega)
      have hk6' : Kp (fun _ => False) nx1 H1 H6 := ((Kp.refl (fun _ => False) nx1 H1).new (n := d) (vs := ([Value.agg #[.int .i64 k2.fr, .int .i64 k2.dst, k2.v]].flatMap fun v => v.cells.toList).toArray) (e := 36) (by omega)).trans0 hk6f (by omega)
      have hle6 := hs6.le
      simp (disch := omega) only [go_sem, ↓reduceIte ]
      refine ⟨dkeep_kp hk6', ?_⟩
      refine appendQ_two (aw_append sl27 zero36 rfl by36 hs6 ((hlit.kp hk6f (by omega) (by simp)).src sl27 (by simp [pkCells, one_int, hone2])) (by simp only [maxLen]; omega) (by omega) (by omega) fun v8 H8 nx8 own8 hn8 hs8 ho8 hk8 _ => ?_)
      have hk8' : Kp (fun _ => False) nx1 H1 H8 := hk6'.trans (U := fun _ => False) hk8 (by omega) (fun _ _ h => h) (fun b hb h => by omega)
      simp (disch := omega) only [go_sem, ↓reduceIte ]
      refine ⟨dkeep_kp hk8', ?_⟩
      exact fin _ _ own8 _ (by omega) hk8' hs8 (by omega)
end Go.Proofs.Ytcdnjkogkibegaa
