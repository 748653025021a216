/- Ether's law EtherBounds, in our own logic. -/
import Derived.Test.YtcdnjkogkibegaaF9
import Derived.Test.YtcdnjkogkibegaaL14
namespace Go.Proofs.Ytcdnjkogkibegaa
open Go.RowKit
set_option linter.unusedSimpArgs false

set_option maxHeartbeats 8000000 in
theorem bounds_bad {lo : Nat} {H : AH} {nx : Nat} (a b i : Int) (s : Value) (bs : List Int) (own : Nat) (hs : SlA nx H 1 s bs.length (byteV bs) own) (h : bs.length = 0 ∨ 60 < bs.length) :
    ACalls Try.prog lo 8 #[.int .i64 a, .int .i64 b, s, .int .i64 i] H nx (fun v H' nx' => v = .bool true ∧ nx ≤ nx' ∧ Kp (fun _ => False) nx H H') := by
  refine ACalls.withLo fun hlo => ?_
  refine acalls_of_awp L8 Try.func8 rfl (by kernel_rfl) ?_
  obtain ⟨ad, c, rfl⟩ := hs.form
  simp (disch := omega) only [go_sem, ↓reduceIte ]
  refine awake19_c.mono fun v H1 nx1 _ ⟨hv, hx1, hk1⟩ => ?_
  subst hv
  rcases h with h | h
  · simp (disch := omega) only [go_sem, ↓reduceIte , h]
    refine awake19_c.mono fun v H2 nx2 _ ⟨hv, hx2, hk2⟩ => ?_
    subst hv
    simp (disch := omega) only [go_sem, ↓reduceIte ]
    exact ⟨by omega, (by repeat first | exact Kp.refl _ _ _ | refine Kp.dropT ?_ (.inl (by omega)) | refine Kp.put ?_ (.inl (by omega)) | refine Kp.new ?_ (by omega) | refine Kp.put ?_ (.inr (by omega)) | refine Kp.trans0 ?_ (by assumption) (by omega) | refine Kp.transS ?_ (by assumption) (by omega) (fun b hb hT => by first | omega | (dsimp only at hT ⊢; omega) | (simp only at hT ⊢; omega))) ⟩
  · simp (disch := omega) only [go_sem, ↓reduceIte ]
    refine awake19_c.mono fun v H2 nx2 _ ⟨hv, hx2, hk2⟩ => ?_
    subst hv
    simp (disch := omega) only [go_sem, ↓reduceIte ]
    exact ⟨by omega, (by repeat first | exact Kp.refl _ _ _ | refine Kp.dropT ?_ (.inl (by omega)) | refine Kp.put ?_ (.inl (by omega)) | refine Kp.new ?_ (by omega) | refine Kp.put ?_ (.inr (by omega)) | refine Kp.trans0 ?_ (by assumption) (by omega) | refine Kp.transS ?_ (by assumption) (by omega) (fun b hb hT => by first | omega | (dsimp only at hT ⊢; omega) | (simp only at hT ⊢; omega))) ⟩

theorem upNone_row (a b : Nat) : (fun (_ _ : Nat) => false) a b = false := rfl
theorem views_nil {l : List Pkt} (h : views l = []) : l = [] := by
  cases l with
  | nil => rfl
  | cons x r => simp [views] at h

theorem send_silent {lo : Nat} {p : Nat} {own : Nat} {H : AH} {nx : Nat} (hE : EtherA lo nx H p (fun _ _ => false) [] own) (a : Int) {s : Value} {bs : List Int} {owns : Nat}
    (hs : SlA nx H 1 s bs.length (byteV bs) owns) (hsb : bs.length ≤ 1000000) (hs1 : owns ≠ p + 1) (hs2 : owns = 0 ∨ owns ≠ own) :
    ACalls Try.prog lo 11 #[.pointer (some ⟨p, 0, none⟩), .int .i64 a, s] H nx (fun v H' nx' => v = .int .i64 0 ∧ nx ≤ nx' ∧ Kp (fun b => b = p ∨ b + 1 = own) nx H H' ∧ ∃ own', EtherA lo nx' H' p (fun _ _ => false) [] own' ∧ (own' = own ∨ nx < own')) := by
  cases ha : nodeC a with
  | false =>
    refine (send_bad a s ha).mono fun v H' nx' _ ⟨hv, hH, hx⟩ => ?_
    subst hH; subst hx
    exact ⟨hv, Nat.le_refl _, Kp.refl _ _ _, own, hE, .inl rfl⟩
  | true =>
    simp only [nodeC, decide_eq_true_eq] at ha
    obtain ⟨k, rfl⟩ : ∃ k : Nat, a = k := ⟨a.toNat, by omega⟩
    refine (send_ok hE (by simp) k (by omega) hs hsb hs1 hs2).mono fun v H' nx' _ ⟨hv, hx, hk, l', own', hE', hv', ho, _⟩ => ?_
    rw [sends_no (fun _ => rfl)] at hv hv'
    have : l' = [] := views_nil (by rw [hv']; rfl)
    subst this
    exact ⟨hv, hx, hk, own', hE', ho⟩

set_option maxRecDepth 20000 in
set_option maxHeartbeats 16000000 in
theorem bounds_no {lo : Nat} {H : AH} {nx : Nat} (a b i : Int) (s : Value) (bs : List Int) (own : Nat) (hs : SlA nx H 1 s bs.length (byteV bs) own) (h0 : 0 < bs.length) (h60 : bs.length ≤ 60) (hr : ∀ x ∈ bs, 0 ≤ x ∧ x < 256)
    (hbad : a < 0 ∨ 16 ≤ a ∨ (0 ≤ a ∧ a < 16 ∧ b < 0) ∨ (0 ≤ a ∧ a < 16 ∧ 16 ≤ b) ∨ (0 ≤ a ∧ a < 16 ∧ a = b)) :
    ACalls Try.prog lo 8 #[.int .i64 a, .int .i64 b, s, .int .i64 i] H nx (fun v H' nx' => v = .bool true ∧ nx ≤ nx' ∧ Kp (fun _ => False) nx H H') := by
  refine ACalls.withLo fun hlo => ?_
  refine acalls_of_awp L8 Try.func8 rfl (by kernel_rfl) ?_
  have hj : (nodeC a && nodeC b && !decide (a = b)) = false := by
    rcases hbad with h | h | h | h | h <;> simp [nodeC] <;> omega
  have hle := hs.le
  obtain ⟨x0, bt, hbt⟩ : ∃ x0 bt, bs = x0 :: bt := by cases bs with | nil => simp at h0 | cons x r => exact ⟨x, r, rfl⟩
  obtain ⟨ad, c, rfl⟩ := hs.form
  simp (disch := omega) only [go_sem, ↓reduceIte ]
  refine awake19_c.mono fun v H1 nx1 _ ⟨hv, hx1, hk1⟩ => ?_
  subst hv
  simp (disch := omega) only [go_sem, ↓reduceIte ]
  intro x hx
  simp (disch := omega) only [go_sem, ↓reduceIte ]
  refine (join_bad (EtherA.zero H1 (by omega)) a b true hj).mono fun v H2 nx2 _ ⟨hv, hH2, hx2⟩ => ?_
  subst hv; subst hx2
  have hE2 : EtherA lo (x + 1) H2 x (fun _ _ => false) [] 0 := by rw [hH2]; exact EtherA.zero H1 (by omega)
  have hs2 : SlA (x + 1) H2 1 (.slice ad bs.length c) bs.length (byteV bs) own := by rw [hH2]; exact hs.kp (S := fun _ => False) (by repeat first | exact Kp.refl _ _ _ | refine Kp.dropT ?_ (.inl (by omega)) | refine Kp.put ?_ (.inl (by omega)) | refine Kp.new ?_ (by omega) | refine Kp.put ?_ (.inr (by omega)) | refine Kp.trans0 ?_ (by assumption) (by omega) | refine Kp.transS ?_ (by assumption) (by omega) (fun b hb hT => by first | omega | (dsimp only at hT ⊢; omega) | (simp only at hT ⊢; omega)))  (by omega) (by simp)
  have hk2 : Kp (fun _ => False) nx H H2 := by rw [hH2]; exact (by repeat first | exact Kp.refl _ _ _ | refine Kp.dropT ?_ (.inl (by omega)) | refine Kp.put ?_ (.inl (by omega)) | refine Kp.new ?_ (by omega) | refine Kp.put ?_ (.inr (by omega)) | refine Kp.trans0 ?_ (by assumption) (by omega) | refine Kp.transS ?_ (by assumption) (by omega) (fun b hb hT => by first | omega | (dsimp only at hT ⊢; omega) | (simp only at hT ⊢; omega))) 
  clear hH2
  generalize hG : awp Try.prog lo L8 = G
  simp (disch := omega) only [go_sem, ↓reduceIte ]
  rw [← hG]
  refine awp_cut (env' := [(0, .int .i64 a), (1, .int .i64 b), (2, .slice ad bs.length c), (3, .int .i64 i), (9, .pointer (some ⟨x, 0, none⟩)), (10, .int .i64 1), (11, .bool false)]) (H' := H2) (nx' := x + 1) ?_ (fun K hK => ?_)
  rotate_left
  · rcases hbad with h | h | h | h | h
    all_goals
      simp (disch := omega) only [go_sem, ↓reduceIte ]
      exact hK
  · simp (disch := omega) only [go_sem, ↓reduceIte ]
    refine appendQ_two (aw_append sl34 zero5 rfl by5 (SlA.nil _ _ _) (hs2.src sl34 byteV_one) (by simp only [maxLen]; omega) (by omega) (.inl rfl) fun v4 H4 nx4 own4 hn4 hs4 ho4 hk4 hnil => ?_)
    rw [Nat.zero_add, List.nil_append] at hs4
    have hle4 := hs4.le
    have hE4 := hE2.kp hk4 hn4 (by omega) (by intro b hb; omega) (by simp)
    simp (disch := omega) only [go_sem, ↓reduceIte ]
    refine (send_silent hE4 a hs4 (by omega) (by omega) (by omega)).mono fun v H5 nx5 _ ⟨hv5, hx5, hk5, own5, hE5, ho5⟩ => ?_
    subst hv5
    obtain ⟨g, off, cap, rfl, hg⟩ := hs4.open h0
    have c0 := hs4.cells.1 0 (.int .u8 x0) (by simp [byteV, hbt])
    rw [Nat.add_zero] at c0
    have hc5 := hk5.cell
    simp (disch := omega) only [go_sem, ↓reduceIte , hc5, c0, Int.toNat_zero]
    have hE6 : EtherA lo nx5 (H5.put g off (.int .u8 (IntKind.u8.wrap (x0 + 1)))) x (fun _ _ => false) [] own5 := hE5.kp (S := fun b => b = g) (by repeat first | exact Kp.refl _ _ _ | refine Kp.dropT ?_ (.inl (by omega)) | refine Kp.put ?_ (.inl (by omega)) | refine Kp.new ?_ (by omega) | refine Kp.put ?_ (.inr (by omega)) | refine Kp.trans0 ?_ (by assumption) (by omega) | refine Kp.transS ?_ (by assumption) (by omega) (fun b hb hT => by first | omega | (dsimp only at hT ⊢; omega) | (simp only at hT ⊢; omega)))  (by omega) (by omega) (by intro b hb; omega) (by simp)
    refine (peek_none hE6 i).mono fun v H6 nx6 _ ⟨hv6, hx6, hk6⟩ => ?_
    subst hv6
    simp (disch := omega) only [go_sem, ↓reduceIte ]
    intro d hd
    simp (disch := omega) only [go_sem, ↓reduceIte ]
    refine (take_none (own := own5) (up := fun _ _ => false) ?_ i).mono fun v H7 nx7 _ ⟨hv7, hx7, hk7⟩ => ?_
    · exact hE6.kp (S := fun _ => False) (by repeat first | exact Kp.refl _ _ _ | refine Kp.dropT ?_ (.inl (by omega)) | refine Kp.put ?_ (.inl (by omega)) | refine Kp.new ?_ (by omega) | refine Kp.put ?_ (.inr (by omega)) | refine Kp.trans0 ?_ (by assumption) (by omega) | refine Kp.transS ?_ (by assumption) (by omega) (fun b hb hT => by first | omega | (dsimp only at hT ⊢; omega) | (simp only at hT ⊢; omega)))  (by omega) (by simp) (by simp) (by simp)
    subst hv7
    have hc7 := hk7.cell0
    simp (disch := omega) only [go_sem, ↓reduceIte , hc7]
    refine (nil_take i).mono fun v H8 nx8 _ ⟨hv8, hx8, hk8⟩ => ?_
    subst hv8
    generalize hG : awp Try.prog lo L8 = G
    simp (disch := omega) only [go_sem, ↓reduceIte ]
    intro e he
    simp (disch := omega) only [go_sem, ↓reduceIte ]
    rw [← hG]
    clear hG
    simp (disch := omega) only [go_sem, ↓reduceIte ]
    refine (nil_peek i).mono fun v H9 nx9 _ ⟨hv9, hx9, hk9⟩ => ?_
    subst hv9
    generalize hG : awp Try.prog lo L8 = G
    simp (disch := omega) only [go_sem, ↓reduceIte ]
    intro f hf
    simp (disch := omega) only [go_sem, ↓reduceIte ]
    rw [← hG]
    clear hG
    clear hc5 hc7 hbt hj hr hnil
    simp only [awp_seq, awp_region, List.append, List.toList_toArray]
    have hE9 : EtherA lo (f + 1) ((((H9.new f #[.int .i64 0, .int .i64 0, .slice none 0 0] 36).put f 0 (.int .i64 0)).put f 1 (.int .i64 0)).put f (1 + 1) (.slice none 0 0)) x (fun _ _ => false) [] own5 := hE6.kp (S := fun _ => False) (by repeat first | exact Kp.refl _ _ _ | refine Kp.dropT ?_ (.inl (by omega)) | refine Kp.put ?_ (.inl (by omega)) | refine Kp.new ?_ (by omega) | refine Kp.put ?_ (.inr (by omega)) | refine Kp.trans0 ?_ (by assumption) (by omega) | refine Kp.transS ?_ (by assumption) (by omega) (fun b hb hT => by first | omega | (dsimp only at hT ⊢; omega) | (simp only at hT ⊢; omega)))  (by omega) (by simp) (by simp) (by simp)
    simp (disch := omega) only [go_sem, ↓reduceIte ]
    refine (hears_c hE9 a b).mono fun v H10 nx10 _ ⟨hv10, hH10, hx10⟩ => ?_
    subst hv10; subst hx10
    rw [show hearsC (fun _ _ => false) a b = false by simp [hearsC]]
    have hk10 : Kp (fun _ => False) nx H H10 := by rw [hH10]; exact (by repeat first | exact Kp.refl _ _ _ | refine Kp.dropT ?_ (.inl (by omega)) | refine Kp.put ?_ (.inl (by omega)) | refine Kp.new ?_ (by omega) | refine Kp.put ?_ (.inr (by omega)) | refine Kp.trans0 ?_ (by assumption) (by omega) | refine Kp.transS ?_ (by assumption) (by omega) (fun b hb hT => by first | omega | (dsimp only at hT ⊢; omega) | (simp only at hT ⊢; omega))) 
    clear hH10 hE9
    simp (disch := omega) only [go_sem, ↓reduceIte ]
    refine (nil_join 0 1 true).mono fun v H11 nx11 _ ⟨hv11, hH11, hx11⟩ => ?_
    subst hv11; subst hH11; subst hx11
    simp (disch := omega) only [go_sem, ↓reduceIte ]
    refine (nil_send 0 _).mono fun v H11 nx11 _ ⟨hv11, hH11, hx11⟩ => ?_
    subst hv11; subst hH11; subst hx11
    simp (disch := omega) only [go_sem, ↓reduceIte ]
    refine (nil_lose i).mono fun v H11 nx11 _ ⟨hv11, hx11, hk11⟩ => ?_
    subst hv11
    simp (disch := omega) only [go_sem, ↓reduceIte ]
    refine (nil_double i).mono fun v H12 nx12 _ ⟨hv12, hx12, hk12⟩ => ?_
    subst hv12
    simp (disch := omega) only [go_sem, ↓reduceIte ]
    refine nil_len.mono fun v H13 nx13 _ ⟨hv13, hH13, hx13⟩ => ?_
    subst hv13; subst hH13; subst hx13
    simp (disch := omega) only [go_sem, ↓reduceIte ]
    refine (nil_hears 0 1).mono fun v H13 nx13 _ ⟨hv13, hH13, hx13⟩ => ?_
    subst hv13; subst hH13; subst hx13
    simp (disch := omega) only [go_sem, ↓reduceIte ]
    exact ⟨by omega, (hk10.trans0 hk11 (by omega)).trans0 hk12 (by omega)⟩
end Go.Proofs.Ytcdnjkogkibegaa
