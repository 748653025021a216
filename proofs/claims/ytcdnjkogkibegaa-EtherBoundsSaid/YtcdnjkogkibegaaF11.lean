/- Ether's law EtherBounds, in our own logic: two that may hear each other. -/
import Derived.Test.YtcdnjkogkibegaaF10
import Derived.Test.YtcdnjkogkibegaaG1
namespace Go.Proofs.Ytcdnjkogkibegaa
open Go.RowKit
set_option linter.unusedSimpArgs false

set_option maxRecDepth 20000 in
set_option maxHeartbeats 16000000 in
theorem bounds_yes {lo : Nat} {H : AH} {nx : Nat} (a b : Nat) (i : Int) (s : Value) (bs : List Int) (own : Nat) (hs : SlA nx H 1 s bs.length (byteV bs) own) (h0 : 0 < bs.length) (h60 : bs.length ≤ 60) (hr : ∀ x ∈ bs, 0 ≤ x ∧ x < 256)
    (ha : a < 16) (hb : b < 16) (hab : a ≠ b) :
    ACalls Try.prog lo 8 #[.int .i64 a, .int .i64 b, s, .int .i64 i] H nx (fun v H' nx' => v = .bool true ∧ nx ≤ nx' ∧ Kp (fun _ => False) nx H H') := by
  refine ACalls.withLo fun hlo => ?_
  refine acalls_of_awp L8 Try.func8 rfl (by kernel_rfl) ?_
  have hle := hs.le
  obtain ⟨x0, bt, hbt⟩ : ∃ x0 bt, bs = x0 :: bt := by cases bs with | nil => simp at h0 | cons x r => exact ⟨x, r, rfl⟩
  have hx0 := hr x0 (by simp [hbt])
  obtain ⟨ad, c, rfl⟩ := hs.form
  simp (disch := omega) only [go_sem, ↓reduceIte ]
  refine awake19_c.mono fun v H1 nx1 _ ⟨hv, hx1, hk1⟩ => ?_
  subst hv
  simp (disch := omega) only [go_sem, ↓reduceIte ]
  intro x hx
  simp (disch := omega) only [go_sem, ↓reduceIte ]
  refine (join_ok (EtherA.zero H1 (by omega)) a b true ha hb hab).mono fun v H2 nx2 _ ⟨hv, hx2, hk2', hE2⟩ => ?_
  subst hv; subst hx2
  have hk2 : Kp (fun _ => False) nx H H2 := (by repeat first | exact Kp.refl _ _ _ | refine Kp.dropT ?_ (.inl (by omega)) | refine Kp.put ?_ (.inl (by omega)) | refine Kp.new ?_ (by omega) | refine Kp.put ?_ (.inr (by omega)) | refine Kp.trans0 ?_ (by assumption) (by omega) | refine Kp.transS ?_ (by assumption) (by omega) (fun b hb hT => by first | omega | (dsimp only at hT ⊢; omega) | (simp only at hT ⊢; omega))) 
  have hs2 : SlA (x + 1) H2 1 (.slice ad bs.length c) bs.length (byteV bs) own := hs.kp hk2 (by omega) (by simp)
  simp (disch := omega) only [go_sem, ↓reduceIte ]
  refine appendQ_two (aw_append sl34 zero5 rfl by5 (SlA.nil _ _ _) (hs2.src sl34 byteV_one) (by simp only [maxLen]; omega) (by omega) (.inl rfl) fun v4 H4 nx4 own4 hn4 hs4 ho4 hk4 hnil => ?_)
  rw [Nat.zero_add, List.nil_append] at hs4
  have hle4 := hs4.le
  have hE4 := hE2.kp hk4 hn4 (by omega) (by intro b hb; omega) (by simp)
  have hs4p := hs2.kp hk4 hn4 (by intro b hb; omega)
  simp (disch := omega) only [go_sem, ↓reduceIte ]
  refine (send_ok hE4 (by simp) a (by omega) hs4 (by omega) (by omega) (by omega)).mono fun v H5 nx5 _ ⟨hv5, hx5, hk5, l, own5, hE5, hvw, ho5, hfr⟩ => ?_
  rw [sends_one (fun d => upPQ_row hab d) bs 16, if_pos hb] at hv5 hvw
  rw [trim_small _ (by simp [views])] at hvw
  subst hv5
  obtain ⟨k, rfl⟩ : ∃ k, l = [k] := by
    have : l.length = 1 := by have := congrArg List.length hvw; simpa [views] using this
    match l, this with
    | [k], _ => exact ⟨k, rfl⟩
  have hkb : k.bs = bs := by
    simp only [views, List.map_cons, List.map_nil, List.nil_append, List.cons.injEq, and_true, Pkt.view, Prod.mk.injEq] at hvw
    exact hvw.2.2
  have hko : k.own = 0 ∨ nx4 < k.own := by
    rcases hfr k (by simp) with h | h
    · simp at h
    · exact h
  obtain ⟨g, off, cap, rfl, hg⟩ := hs4.open h0
  have c0 := hs4.cells.1 0 (.int .u8 x0) (by simp [byteV, hbt])
  rw [Nat.add_zero] at c0
  have hc5 := hk5.cell
  have hlt2 := hE2.lt
  have hs5 := hs4p.kp hk5 hx5 (by intro b hb; omega)
  simp (disch := omega) only [go_sem, ↓reduceIte , hc5, c0, Int.toNat_zero, List.length_singleton]
  have hkpG : Kp (fun b => b = g) nx5 H5 (H5.put g off (.int .u8 (IntKind.u8.wrap (x0 + 1)))) := (by repeat first | exact Kp.refl _ _ _ | refine Kp.dropT ?_ (.inl (by omega)) | refine Kp.put ?_ (.inl (by omega)) | refine Kp.new ?_ (by omega) | refine Kp.put ?_ (.inr (by omega)) | refine Kp.trans0 ?_ (by assumption) (by omega) | refine Kp.transS ?_ (by assumption) (by omega) (fun b hb hT => by first | omega | (dsimp only at hT ⊢; omega) | (simp only at hT ⊢; omega))) 
  have hE6 := hE5.kp hkpG (Nat.le_refl _) (by omega) (by intro b hb; omega) (by intro k' hk' b hb; simp only [List.mem_singleton] at hk'; subst hk'; omega)
  have hs6 := hs5.kp hkpG (Nat.le_refl _) (by intro b hb; omega)
  have hat : atC i [k].length = 0 := by have := atC_lt i 1 (by omega); simpa using this
  refine (peek_some hE6 (by simp) i k (by rw [hat]; rfl) (by rw [hkb]; omega)).mono fun v H6 nx6 _ ⟨hx6, hk6, sy, owny, hv6, hsy, hoy⟩ => ?_
  subst hv6
  rw [hkb] at hsy
  obtain ⟨gy, offy, capy, rfl, hgy⟩ := hsy.open h0
  have cy := hsy.cells.1 0 (.int .u8 x0) (by simp [byteV, hbt])
  rw [Nat.add_zero] at cy
  simp (disch := omega) only [go_sem, ↓reduceIte ]
  intro d hd
  have hgl := hsy.le
  have hkl := (hE6.pk k (by simp)).1.le
  have hxl := hE6.lt
  have h5l := hE6.q.choose_spec.2.le
  simp (disch := omega) only [go_sem, ↓reduceIte , cy, Int.toNat_zero]
  refine (take_some (p := x) (up := upC (fun _ _ => false) a b true) (l := [k]) (own := own5) ?_ (by simp) i k (by rw [hat]; rfl) (by rw [hkb]; omega)).mono fun v H7 nx7 _ ⟨hx7, hk7, hE7, s2, own2, hv7, hst, hot⟩ => ?_
  · exact hE6.kp (S := fun b => b = gy) (nx' := d + 1) (by repeat first | exact Kp.refl _ _ _ | refine Kp.dropT ?_ (.inl (by omega)) | refine Kp.put ?_ (.inl (by omega)) | refine Kp.new ?_ (by omega) | refine Kp.put ?_ (.inr (by omega)) | refine Kp.trans0 ?_ (by assumption) (by omega) | refine Kp.transS ?_ (by assumption) (by omega) (fun b hb hT => by first | omega | (dsimp only at hT ⊢; omega) | (simp only at hT ⊢; omega)))  (by omega) (by omega) (by intro b hb; omega) (by intro k' hk' b hb; simp only [List.mem_singleton] at hk'; subst hk'; omega)
  subst hv7
  rw [hkb] at hst
  rw [hat] at hE7
  simp only [List.take_zero, List.nil_append, Nat.zero_add, List.drop_one, List.tail_cons] at hE7
  obtain ⟨g2, off2, cap2, rfl, hg2⟩ := hst.open h0
  have hc7 := hk7.cell
  have hs7 : SlA nx7 H7 1 (.slice ad bs.length c) bs.length (byteV bs) own := (hs6.kp (S := fun b => b = gy) (nx' := d + 1) (by repeat first | exact Kp.refl _ _ _ | refine Kp.dropT ?_ (.inl (by omega)) | refine Kp.put ?_ (.inl (by omega)) | refine Kp.new ?_ (by omega) | refine Kp.put ?_ (.inr (by omega)) | refine Kp.trans0 ?_ (by assumption) (by omega) | refine Kp.transS ?_ (by assumption) (by omega) (fun b hb hT => by first | omega | (dsimp only at hT ⊢; omega) | (simp only at hT ⊢; omega)))  (by omega) (by intro b hb; omega)).kp hk7 hx7 (by intro b hb; omega)
  have hst_le := hst.le
  generalize hG : awp Try.prog lo L8 = G
  simp (disch := omega) only [go_sem, ↓reduceIte , hc7]
  rw [← hG]
  clear hG
  have hE8 : EtherA lo nx7 (((H7.put d 0 (.int .i64 k.fr)).put d 1 (.int .i64 k.dst)).put d (1 + 1) (.slice (some ⟨g2, off2, none⟩) bs.length cap2)) x (upC (fun _ _ => false) a b true) [] own5 := hE7.kp (S := fun b => b = d) (by repeat first | exact Kp.refl _ _ _ | refine Kp.dropT ?_ (.inl (by omega)) | refine Kp.put ?_ (.inl (by omega)) | refine Kp.new ?_ (by omega) | refine Kp.put ?_ (.inr (by omega)) | refine Kp.trans0 ?_ (by assumption) (by omega) | refine Kp.transS ?_ (by assumption) (by omega) (fun b hb hT => by first | omega | (dsimp only at hT ⊢; omega) | (simp only at hT ⊢; omega)))  (Nat.le_refl _) (by omega) (by intro b hb; omega) (by simp)
  have hs8 := hs7.kp (S := fun b => b = d) (nx' := nx7) (H' := ((H7.put d 0 (.int .i64 k.fr)).put d 1 (.int .i64 k.dst)).put d (1 + 1) (.slice (some ⟨g2, off2, none⟩) bs.length cap2)) (by repeat first | exact Kp.refl _ _ _ | refine Kp.dropT ?_ (.inl (by omega)) | refine Kp.put ?_ (.inl (by omega)) | refine Kp.new ?_ (by omega) | refine Kp.put ?_ (.inr (by omega)) | refine Kp.trans0 ?_ (by assumption) (by omega) | refine Kp.transS ?_ (by assumption) (by omega) (fun b hb hT => by first | omega | (dsimp only at hT ⊢; omega) | (simp only at hT ⊢; omega)))  (Nat.le_refl _) (by intro b hb; omega)
  have hst8 := hst.kp (S := fun b => b = d) (nx' := nx7) (H' := ((H7.put d 0 (.int .i64 k.fr)).put d 1 (.int .i64 k.dst)).put d (1 + 1) (.slice (some ⟨g2, off2, none⟩) bs.length cap2)) (by repeat first | exact Kp.refl _ _ _ | refine Kp.dropT ?_ (.inl (by omega)) | refine Kp.put ?_ (.inl (by omega)) | refine Kp.new ?_ (by omega) | refine Kp.put ?_ (.inr (by omega)) | refine Kp.trans0 ?_ (by assumption) (by omega) | refine Kp.transS ?_ (by assumption) (by omega) (fun b hb hT => by first | omega | (dsimp only at hT ⊢; omega) | (simp only at hT ⊢; omega)))  (Nat.le_refl _) (by intro b hb; omega)
  have hk8 : Kp (fun _ => False) nx H (((H7.put d 0 (.int .i64 k.fr)).put d 1 (.int .i64 k.dst)).put d (1 + 1) (.slice (some ⟨g2, off2, none⟩) bs.length cap2)) := (by repeat first | exact Kp.refl _ _ _ | refine Kp.dropT ?_ (.inl (by omega)) | refine Kp.put ?_ (.inl (by omega)) | refine Kp.new ?_ (by omega) | refine Kp.put ?_ (.inr (by omega)) | refine Kp.trans0 ?_ (by assumption) (by omega) | refine Kp.transS ?_ (by assumption) (by omega) (fun b hb hT => by first | omega | (dsimp only at hT ⊢; omega) | (simp only at hT ⊢; omega))) 
  have d8 : (((H7.put d 0 (.int .i64 k.fr)).put d 1 (.int .i64 k.dst)).put d (1 + 1) (.slice (some ⟨g2, off2, none⟩) bs.length cap2)).c d 2 = some (.slice (some ⟨g2, off2, none⟩) bs.length cap2) := by simp (disch := omega) only [go_sem, ↓reduceIte ]
  refine awp_name fun H8 hH8 => ?_
  rw [← hH8] at hE8 hs8 hst8 hk8 d8
  clear hH8 hE7 hE6 hE5 hE4 hE2 hs7 hst hc7 hs6 hs5 hc5 hk7 hk6 hk5 hkpG c0 cy hsy hs4 hs4p hk4 hs2 hk2 hk2' hfr hvw
  simp (disch := omega) only [go_sem, ↓reduceIte ]
  refine (nil_take i).mono fun v H9 nx9 _ ⟨hv9, hx9, hk9⟩ => ?_
  subst hv9
  generalize hG : awp Try.prog lo L8 = G
  simp (disch := omega) only [go_sem, ↓reduceIte ]
  intro e he
  simp (disch := omega) only [go_sem, ↓reduceIte ]
  rw [← hG]
  clear hG
  simp (disch := omega) only [go_sem, ↓reduceIte ]
  refine (nil_peek i).mono fun v H10 nx10 _ ⟨hv10, hx10, hk10'⟩ => ?_
  subst hv10
  generalize hG : awp Try.prog lo L8 = G
  simp (disch := omega) only [go_sem, ↓reduceIte ]
  intro f hf
  simp (disch := omega) only [go_sem, ↓reduceIte ]
  rw [← hG]
  clear hG
  have hE9 : EtherA lo (f + 1) ((((H10.new f #[.int .i64 0, .int .i64 0, .slice none 0 0] 36).put f 0 (.int .i64 0)).put f 1 (.int .i64 0)).put f (1 + 1) (.slice none 0 0)) x (upC (fun _ _ => false) a b true) [] own5 := hE8.kp (S := fun _ => False) (by repeat first | exact Kp.refl _ _ _ | refine Kp.dropT ?_ (.inl (by omega)) | refine Kp.put ?_ (.inl (by omega)) | refine Kp.new ?_ (by omega) | refine Kp.put ?_ (.inr (by omega)) | refine Kp.trans0 ?_ (by assumption) (by omega) | refine Kp.transS ?_ (by assumption) (by omega) (fun b hb hT => by first | omega | (dsimp only at hT ⊢; omega) | (simp only at hT ⊢; omega)))  (by omega) (by simp) (by simp) (by simp)
  have hs9 := hs8.kp (S := fun _ => False) (nx' := f + 1) (H' := ((((H10.new f #[.int .i64 0, .int .i64 0, .slice none 0 0] 36).put f 0 (.int .i64 0)).put f 1 (.int .i64 0)).put f (1 + 1) (.slice none 0 0))) (by repeat first | exact Kp.refl _ _ _ | refine Kp.dropT ?_ (.inl (by omega)) | refine Kp.put ?_ (.inl (by omega)) | refine Kp.new ?_ (by omega) | refine Kp.put ?_ (.inr (by omega)) | refine Kp.trans0 ?_ (by assumption) (by omega) | refine Kp.transS ?_ (by assumption) (by omega) (fun b hb hT => by first | omega | (dsimp only at hT ⊢; omega) | (simp only at hT ⊢; omega)))  (by omega) (by simp)
  have hst9 := hst8.kp (S := fun _ => False) (nx' := f + 1) (H' := ((((H10.new f #[.int .i64 0, .int .i64 0, .slice none 0 0] 36).put f 0 (.int .i64 0)).put f 1 (.int .i64 0)).put f (1 + 1) (.slice none 0 0))) (by repeat first | exact Kp.refl _ _ _ | refine Kp.dropT ?_ (.inl (by omega)) | refine Kp.put ?_ (.inl (by omega)) | refine Kp.new ?_ (by omega) | refine Kp.put ?_ (.inr (by omega)) | refine Kp.trans0 ?_ (by assumption) (by omega) | refine Kp.transS ?_ (by assumption) (by omega) (fun b hb hT => by first | omega | (dsimp only at hT ⊢; omega) | (simp only at hT ⊢; omega)))  (by omega) (by simp)
  have hk10 : Kp (fun _ => False) nx H ((((H10.new f #[.int .i64 0, .int .i64 0, .slice none 0 0] 36).put f 0 (.int .i64 0)).put f 1 (.int .i64 0)).put f (1 + 1) (.slice none 0 0)) := (by repeat first | exact Kp.refl _ _ _ | refine Kp.dropT ?_ (.inl (by omega)) | refine Kp.put ?_ (.inl (by omega)) | refine Kp.new ?_ (by omega) | refine Kp.put ?_ (.inr (by omega)) | refine Kp.trans0 ?_ (by assumption) (by omega) | refine Kp.transS ?_ (by assumption) (by omega) (fun b hb hT => by first | omega | (dsimp only at hT ⊢; omega) | (simp only at hT ⊢; omega))) 
  have d9 : ((((H10.new f #[.int .i64 0, .int .i64 0, .slice none 0 0] 36).put f 0 (.int .i64 0)).put f 1 (.int .i64 0)).put f (1 + 1) (.slice none 0 0)).c d 2 = some (.slice (some ⟨g2, off2, none⟩) bs.length cap2) := by
    have h1 := hk9.cell0
    have h2 := hk10'.cell0
    simp (disch := omega) only [go_sem, ↓reduceIte , h1, h2, d8]
  refine awp_name fun H11 hH11 => ?_
  rw [← hH11] at hE9 hs9 hst9 hk10 d9
  clear hH11 hE8 hs8 hst8 hk8 d8 hk9 hk10'
  simp only [awp_seq, awp_region, List.append, List.toList_toArray]
  simp (disch := omega) only [go_sem, ↓reduceIte , d9]
  rw [convQ_bytes sl34 (by kernel_rfl) (by kernel_rfl) hst9]
  simp (disch := omega) only [go_sem, ↓reduceIte ]
  rw [convQ_bytes sl34 (by kernel_rfl) (by kernel_rfl) hs9]
  simp (disch := omega) only [go_sem, ↓reduceIte , eq_self]
  refine (hears_c hE9 a b).mono fun v H12 nx12 _ ⟨hv12, hH12, hx12⟩ => ?_
  subst hv12; subst hH12; subst hx12
  rw [show hearsC (upC (fun _ _ => false) a b true) a b = true by simp [hearsC, nodeC, upC]; omega]
  clear hE9 hs9 hst9
  simp (disch := omega) only [go_sem, ↓reduceIte ]
  refine (nil_join 0 1 true).mono fun v H11 nx11 _ ⟨hv11, hH11, hx11⟩ => ?_
  subst hv11; subst hH11; subst hx11
  simp (disch := omega) only [go_sem, ↓reduceIte ]
  refine (nil_send 0 _).mono fun v H11 nx11 _ ⟨hv11, hH11, hx11⟩ => ?_
  subst hv11; subst hH11; subst hx11
  simp (disch := omega) only [go_sem, ↓reduceIte ]
  refine (nil_lose i).mono fun v H11 nx11 _ ⟨hv11, hx11, hk11⟩ => ?_
  subst hv11
  simp (disch := omega) only [go_sem, ↓reduceIte ]
  refine (nil_double i).mono fun v H12 nx12 _ ⟨hv12, hx12, hk12⟩ => ?_
  subst hv12
  simp (disch := omega) only [go_sem, ↓reduceIte ]
  refine nil_len.mono fun v H13 nx13 _ ⟨hv13, hH13, hx13⟩ => ?_
  subst hv13; subst hH13; subst hx13
  simp (disch := omega) only [go_sem, ↓reduceIte ]
  refine (nil_hears 0 1).mono fun v H13 nx13 _ ⟨hv13, hH13, hx13⟩ => ?_
  subst hv13; subst hH13; subst hx13
  simp (disch := omega) only [go_sem, ↓reduceIte ]
  exact ⟨by omega, (hk10.trans0 hk11 (by omega)).trans0 hk12 (by omega)⟩
end Go.Proofs.Ytcdnjkogkibegaa
