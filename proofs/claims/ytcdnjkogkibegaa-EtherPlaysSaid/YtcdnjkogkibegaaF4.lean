/- Ether, in our own logic: Lose, Double, Join. -/
import Derived.Test.YtcdnjkogkibegaaF3
namespace Go.Proofs.Ytcdnjkogkibegaa
open Go.RowKit
set_option linter.unusedSimpArgs false

theorem lose_none {lo : Nat} {p : Nat} {up : Nat → Nat → Bool} {own : Nat} {H : AH} {nx : Nat} (hE : EtherA lo nx H p up [] own) (i : Int) :
    ACalls Try.prog lo 29 #[.pointer (some ⟨p, 0, none⟩), .int .i64 i] H nx (fun v H' nx' => v = .int .i64 2 ∧ nx ≤ nx' ∧ Kp (fun _ => False) nx H H') := by
  refine ACalls.withLo fun hlo => ?_
  refine acalls_of_awp L29 Try.func29 rfl (by kernel_rfl) ?_
  simp (disch := omega) only [go_sem, ↓reduceIte ]
  refine (take_none hE i).mono fun v H' nx' _ ⟨hv, hx, hk⟩ => ?_
  subst hv
  simp (disch := omega) only [go_sem, ↓reduceIte ]
  intro m hm
  simp (disch := omega) only [go_sem, ↓reduceIte ]
  exact ⟨by omega, (by repeat first | exact Kp.refl _ _ _ | refine Kp.dropT ?_ (.inl (by omega)) | refine Kp.put ?_ (.inl (by omega)) | refine Kp.new ?_ (by omega) | refine Kp.put ?_ (.inr (by omega)) | refine Kp.trans0 ?_ (by assumption) (by omega) | refine Kp.transS ?_ (by assumption) (by omega) (fun b hb hT => by first | omega | (dsimp only at hT ⊢; omega) | (simp only at hT ⊢; omega))) ⟩

theorem lose_some {lo : Nat} {p : Nat} {up : Nat → Nat → Bool} {l : List Pkt} {own : Nat} {H : AH} {nx : Nat} (hE : EtherA lo nx H p up l own) (hl : 0 < l.length) (i : Int) (k : Pkt) (hk : l[atC i l.length]? = some k) (hkl : k.bs.length ≤ 1000000) :
    ACalls Try.prog lo 29 #[.pointer (some ⟨p, 0, none⟩), .int .i64 i] H nx (fun v H' nx' => v = .int .i64 0 ∧ nx ≤ nx' ∧ Kp (fun b => b = p ∨ b + 1 = own) nx H H' ∧ EtherA lo nx' H' p up (l.take (atC i l.length) ++ l.drop (atC i l.length + 1)) own) := by
  refine ACalls.withLo fun hlo => ?_
  refine acalls_of_awp L29 Try.func29 rfl (by kernel_rfl) ?_
  simp (disch := omega) only [go_sem, ↓reduceIte ]
  refine (take_some hE hl i k hk hkl).mono fun v H' nx' _ ⟨hx, hk', hE', s, own', hv, hs, _⟩ => ?_
  subst hv
  have hone := hs.one
  simp (disch := omega) only [go_sem, ↓reduceIte ]
  intro m hm
  simp (disch := omega) only [go_sem, ↓reduceIte , hone]
  have hpl := hE.lt
  have how := hE.q.choose_spec.2.le
  refine ⟨by omega, (by repeat first | exact Kp.refl _ _ _ | refine Kp.dropT ?_ (.inl (by omega)) | refine Kp.put ?_ (.inl (by omega)) | refine Kp.new ?_ (by omega) | refine Kp.put ?_ (.inr (by omega)) | refine Kp.trans0 ?_ (by assumption) (by omega) | refine Kp.transS ?_ (by assumption) (by omega) (fun b hb hT => by first | omega | (dsimp only at hT ⊢; omega) | (simp only at hT ⊢; omega))) , ?_⟩
  exact hE'.kp (S := fun _ => False) (by repeat first | exact Kp.refl _ _ _ | refine Kp.dropT ?_ (.inl (by omega)) | refine Kp.put ?_ (.inl (by omega)) | refine Kp.new ?_ (by omega) | refine Kp.put ?_ (.inr (by omega)) | refine Kp.trans0 ?_ (by assumption) (by omega) | refine Kp.transS ?_ (by assumption) (by omega) (fun b hb hT => by first | omega | (dsimp only at hT ⊢; omega) | (simp only at hT ⊢; omega)))  (by omega) (by simp) (by simp) (by simp)

def upC (up : Nat → Nat → Bool) (a b : Nat) (on : Bool) : Nat → Nat → Bool := fun x y => if (x = a ∧ y = b) ∨ (x = b ∧ y = a) then on else up x y

theorem join_bad {lo : Nat} {p : Nat} {up : Nat → Nat → Bool} {l : List Pkt} {own : Nat} {H : AH} {nx : Nat} (_hE : EtherA lo nx H p up l own) (a b : Int) (on : Bool) (h : (nodeC a && nodeC b && !decide (a = b)) = false) :
    ACalls Try.prog lo 10 #[.pointer (some ⟨p, 0, none⟩), .int .i64 a, .int .i64 b, .bool on] H nx (fun v H' nx' => v = .int .i64 1 ∧ H' = H ∧ nx' = nx) := by
  refine acalls_of_awp L10 Try.func10 rfl (by kernel_rfl) ?_
  simp (disch := omega) only [go_sem, ↓reduceIte ]
  refine (node_c a H nx).mono fun v H' nx' _ ⟨hv, hH, hx⟩ => ?_
  subst hv; subst hH; subst hx
  cases ha : nodeC a
  · simp (disch := omega) only [go_sem, ↓reduceIte ]
  · simp (disch := omega) only [go_sem, ↓reduceIte ]
    refine (node_c b H' nx').mono fun v H' nx' _ ⟨hv, hH, hx⟩ => ?_
    subst hv; subst hH; subst hx
    cases hb : nodeC b
    · simp (disch := omega) only [go_sem, ↓reduceIte ]
    · rw [ha, hb] at h
      simp at h
      simp (disch := omega) only [go_sem, ↓reduceIte , h]

theorem join_ok {lo : Nat} {p : Nat} {up : Nat → Nat → Bool} {l : List Pkt} {own : Nat} {H : AH} {nx : Nat} (hE : EtherA lo nx H p up l own) (a b : Nat) (on : Bool) (ha : a < 16) (hb : b < 16) (hab : a ≠ b) :
    ACalls Try.prog lo 10 #[.pointer (some ⟨p, 0, none⟩), .int .i64 a, .int .i64 b, .bool on] H nx (fun v H' nx' => v = .int .i64 0 ∧ nx' = nx ∧ Kp (fun b => b = p) nx H H' ∧ EtherA lo nx H' p (upC up a b on) l own) := by
  refine ACalls.withLo fun hlo => ?_
  refine acalls_of_awp L10 Try.func10 rfl (by kernel_rfl) ?_
  have na : nodeC a = true := by simp [nodeC]; omega
  have nb : nodeC b = true := by simp [nodeC]; omega
  have hge := hE.ge
  have hlt := hE.lt
  have c1 := hE.up a b ha hb
  have c2 := hE.up b a hb ha
  rw [Nat.mul_comm] at c1 c2
  simp (disch := omega) only [go_sem, ↓reduceIte ]
  refine (node_c a H nx).mono fun v H' nx' _ ⟨hv, hH, hx⟩ => ?_
  subst hv; subst hH; subst hx
  simp (disch := omega) only [go_sem, ↓reduceIte , na]
  refine (node_c b H' nx').mono fun v H' nx' _ ⟨hv, hH, hx⟩ => ?_
  subst hv; subst hH; subst hx
  simp (disch := omega) only [go_sem, ↓reduceIte , nb]
  refine awp_draw ord10x5 (by kernel_rfl) ?_
  simp (disch := omega) only [go_sem, ↓reduceIte , ord10x5, c1, c2]
  refine ⟨dkeep_last (by kernel_rfl), dkeep_last (by kernel_rfl), (by repeat first | exact Kp.refl _ _ _ | refine Kp.dropT ?_ (.inl (by omega)) | refine Kp.put ?_ (.inl (by omega)) | refine Kp.new ?_ (by omega) | refine Kp.put ?_ (.inr (by omega)) | refine Kp.trans0 ?_ (by assumption) (by omega) | refine Kp.transS ?_ (by assumption) (by omega) (fun b hb hT => by first | omega | (dsimp only at hT ⊢; omega) | (simp only at hT ⊢; omega))) , ?_⟩
  obtain ⟨q, hq, hs⟩ := hE.q
  have hne := hE.ne
  refine hE.remade (Nat.le_refl _) (by repeat first | exact Kp.refl _ _ _ | refine Kp.dropT ?_ (.inl (by omega)) | refine Kp.put ?_ (.inl (by omega)) | refine Kp.new ?_ (by omega) | refine Kp.put ?_ (.inr (by omega)) | refine Kp.trans0 ?_ (by assumption) (by omega) | refine Kp.transS ?_ (by assumption) (by omega) (fun b hb hT => by first | omega | (dsimp only at hT ⊢; omega) | (simp only at hT ⊢; omega)))  (fun x y hx hy => ?_) (v := q) ?_ ?_ (.inl rfl) hlo (fun k hk => .inl hk)
  · rw [Nat.mul_comm 16 x]
    unfold upC
    by_cases h2 : x = b ∧ y = a
    · obtain ⟨rfl, rfl⟩ := h2
      rw [put_same, if_pos (.inr ⟨rfl, rfl⟩)]
    · rw [put_other _ _ _ _ _ (by omega)]
      by_cases h1 : x = a ∧ y = b
      · obtain ⟨rfl, rfl⟩ := h1
        rw [put_same, if_pos (.inl ⟨rfl, rfl⟩)]
      · rw [put_other _ _ _ _ _ (by omega), if_neg (by omega), Nat.mul_comm x 16]
        exact hE.up x y hx hy
  · rw [put_other _ _ _ _ _ (by omega), put_other _ _ _ _ _ (by omega)]
    exact hq
  · exact (hs.put (by omega)).put (by omega)

/-! ### Double -/
theorem double_none {lo : Nat} {p : Nat} {up : Nat → Nat → Bool} {own : Nat} {H : AH} {nx : Nat} (hE : EtherA lo nx H p up [] own) (i : Int) :
    ACalls Try.prog lo 28 #[.pointer (some ⟨p, 0, none⟩), .int .i64 i] H nx (fun v H' nx' => v = .int .i64 2 ∧ nx ≤ nx' ∧ Kp (fun _ => False) nx H H') := by
  refine ACalls.withLo fun hlo => ?_
  refine acalls_of_awp L28 Try.func28 rfl (by kernel_rfl) ?_
  simp (disch := omega) only [go_sem, ↓reduceIte ]
  refine (peek_none hE i).mono fun v H' nx' _ ⟨hv, hx, hk⟩ => ?_
  subst hv
  simp (disch := omega) only [go_sem, ↓reduceIte ]
  intro m hm
  simp (disch := omega) only [go_sem, ↓reduceIte ]
  exact ⟨by omega, (by repeat first | exact Kp.refl _ _ _ | refine Kp.dropT ?_ (.inl (by omega)) | refine Kp.put ?_ (.inl (by omega)) | refine Kp.new ?_ (by omega) | refine Kp.put ?_ (.inr (by omega)) | refine Kp.trans0 ?_ (by assumption) (by omega) | refine Kp.transS ?_ (by assumption) (by omega) (fun b hb hT => by first | omega | (dsimp only at hT ⊢; omega) | (simp only at hT ⊢; omega))) ⟩

theorem double_some {lo : Nat} {p : Nat} {up : Nat → Nat → Bool} {l : List Pkt} {own : Nat} {H : AH} {nx : Nat} (hE : EtherA lo nx H p up l own) (hl : 0 < l.length) (hmax : l.length ≤ 1000000) (i : Int) (k : Pkt) (hk : l[atC i l.length]? = some k) (hkl : k.bs.length ≤ 1000000) :
    ACalls Try.prog lo 28 #[.pointer (some ⟨p, 0, none⟩), .int .i64 i] H nx (fun v H' nx' => v = .int .i64 0 ∧ nx ≤ nx' ∧ Kp (fun b => b = p ∨ b + 1 = own) nx H H' ∧
      ∃ k' own', EtherA lo nx' H' p up (l ++ [k']) own' ∧ k'.fr = k.fr ∧ k'.dst = k.dst ∧ k'.bs = k.bs ∧ (own' = own ∨ nx < own') ∧ (k'.own = 0 ∨ nx < k'.own)) := by
  refine ACalls.withLo fun hlo => ?_
  refine acalls_of_awp L28 Try.func28 rfl (by kernel_rfl) ?_
  obtain ⟨q, hq, hsq⟩ := hE.q
  have hgl := hsq.le
  have hlt := hE.lt
  have hge := hE.ge
  have how := hE.ow
  have hne := hE.ne
  simp (disch := omega) only [go_sem, ↓reduceIte ]
  refine (peek_some hE hl i k hk hkl).mono fun v H1 nx1 _ ⟨hn1, hk1, s, owns, hv, hs, ho⟩ => ?_
  subst hv
  have hcc := hk1.cell0
  have hone := hs.one
  simp (disch := omega) only [go_sem, ↓reduceIte ]
  intro m hm
  simp (disch := omega) only [go_sem, ↓reduceIte , hone]
  refine awp_draw ord28x3 (by kernel_rfl) ?_
  simp (disch := omega) only [go_sem, ↓reduceIte , ord28x3, hq, hcc]
  refine buildSQ_all [.agg #[.int .i64 k.fr, .int .i64 k.dst, s]] sl27 zero36 (by omega) (by omega) rfl (by simp [cells_agg]) fun d hd => ?_
  have hlit : SlA (d + 1) _ 3 (.slice (some ⟨d, 0, none⟩) 1 1) 1 [.int .i64 k.fr, .int .i64 k.dst, s] (d + 1) := SlA.ofNew (H := ((((H1.new m #[.int .i64 0, .int .i64 0, .slice none 0 0] 36).put m 0 (.int .i64 k.fr)).put m 1 (.int .i64 k.dst)).put m (1 + 1) s)) (e := 36) (cs := ([Value.agg #[.int .i64 k.fr, .int .i64 k.dst, s]].flatMap fun v => v.cells.toList).toArray) rfl (by omega) (by simp [maxLen]) (by simp [cells_agg]) (fun j _ => by simp [cells_agg])
  simp (disch := omega) only [go_sem, ↓reduceIte ]
  refine ⟨dkeep_kp (by repeat first | exact Kp.refl _ _ _ | refine Kp.dropT ?_ (.inl (by omega)) | refine Kp.put ?_ (.inl (by omega)) | refine Kp.new ?_ (by omega) | refine Kp.put ?_ (.inr (by omega)) | refine Kp.trans0 ?_ (by assumption) (by omega) | refine Kp.transS ?_ (by assumption) (by omega) (fun b hb hT => by first | omega | (dsimp only at hT ⊢; omega) | (simp only at hT ⊢; omega))) , ?_⟩
  have hsq1 : SlA (d + 1) _ 3 q l.length (pkCells l) own := hsq.kp (S := fun _ => False) (nx' := d + 1) (H' := (((((H1.new m #[.int .i64 0, .int .i64 0, .slice none 0 0] 36).put m 0 (.int .i64 k.fr)).put m 1 (.int .i64 k.dst)).put m (1 + 1) s).new d ([Value.agg #[.int .i64 k.fr, .int .i64 k.dst, s]].flatMap fun v => v.cells.toList).toArray 36)) (by repeat first | exact Kp.refl _ _ _ | refine Kp.dropT ?_ (.inl (by omega)) | refine Kp.put ?_ (.inl (by omega)) | refine Kp.new ?_ (by omega) | refine Kp.put ?_ (.inr (by omega)) | refine Kp.trans0 ?_ (by assumption) (by omega) | refine Kp.transS ?_ (by assumption) (by omega) (fun b hb hT => by first | omega | (dsimp only at hT ⊢; omega) | (simp only at hT ⊢; omega)))  (by omega) (by simp)
  refine appendQ_two (aw_append sl27 zero36 rfl by36 hsq1 (hlit.src sl27 (by simp [hone, one_int])) (by simp only [maxLen]; omega) (by omega) how fun v4 H4 nx4 own4 hn4 hs4 ho4 hk4 _ => ?_)
  have hone4 := hs4.one
  have hc4 := hk4.cell
  simp (disch := omega) only [go_sem, ↓reduceIte ]
  refine ⟨dkeep_last (by kernel_rfl), ?_⟩
  simp (disch := omega) only [go_sem, ↓reduceIte , hc4, hcc, hq, hone4]
  refine ⟨dkeep_last (by kernel_rfl), ?_⟩
  refine ⟨by omega, (by repeat first | exact Kp.refl _ _ _ | refine Kp.dropT ?_ (.inl (by omega)) | refine Kp.put ?_ (.inl (by omega)) | refine Kp.new ?_ (by omega) | refine Kp.put ?_ (.inr (by omega)) | refine Kp.trans0 ?_ (by assumption) (by omega) | refine Kp.transS ?_ (by assumption) (by omega) (fun b hb hT => by first | omega | (dsimp only at hT ⊢; omega) | (simp only at hT ⊢; omega))) , ⟨k.fr, k.dst, s, k.bs, owns⟩, own4, ?_, rfl, rfl, rfl, by omega, ho⟩
  have hsle := hs.le
  refine hE.remade (by omega) (by repeat first | exact Kp.refl _ _ _ | refine Kp.dropT ?_ (.inl (by omega)) | refine Kp.put ?_ (.inl (by omega)) | refine Kp.new ?_ (by omega) | refine Kp.put ?_ (.inr (by omega)) | refine Kp.trans0 ?_ (by assumption) (by omega) | refine Kp.transS ?_ (by assumption) (by omega) (fun b hb hT => by first | omega | (dsimp only at hT ⊢; omega) | (simp only at hT ⊢; omega)))  (fun a b ha hb => ?_) (v := v4) ?_ ?_ (by omega) hlo (fun x hx => ?_)
  · simp (disch := omega) only [go_sem, ↓reduceIte , hc4, hcc]
    exact hE.up a b ha hb
  · simp (disch := omega) only [go_sem, ↓reduceIte ]
  · rw [List.length_append, pkCells_append]
    exact hs4.put (by omega)
  · rcases List.mem_append.1 hx with hx | hx
    · exact .inl hx
    · simp only [List.mem_singleton] at hx
      subst hx
      refine .inr ⟨?_, by dsimp only; omega, by dsimp only; omega⟩
      exact hs.kp (S := fun b => b = p ∨ b + 1 = own) (by repeat first | exact Kp.refl _ _ _ | refine Kp.dropT ?_ (.inl (by omega)) | refine Kp.put ?_ (.inl (by omega)) | refine Kp.new ?_ (by omega) | refine Kp.put ?_ (.inr (by omega)) | refine Kp.trans0 ?_ (by assumption) (by omega) | refine Kp.transS ?_ (by assumption) (by omega) (fun b hb hT => by first | omega | (dsimp only at hT ⊢; omega) | (simp only at hT ⊢; omega)))  (by omega) (by intro b hb; omega)
end Go.Proofs.Ytcdnjkogkibegaa
