/- An act on routes, and by the letter: all that a neighbor told is gone; time goes by. -/
import Derived.Test.YtgopmklcggoliaaT4
namespace Go.Proofs.Ytgopmklcggoliaa
open Go.RowKit
set_option linter.unusedSimpArgs false

def dlI (q : Tld → Bool) (us : List Tld) (j : Nat) : List Tld := us.take j ++ (us.drop j).filter q
theorem dlI_get {q : Tld → Bool} {us : List Tld} {j : Nat} {x : Tld} (h : us[j]? = some x) : (dlI q us (j + 1))[j]? = some x := by
  have hj := (List.getElem?_eq_some_iff.1 h).1
  unfold dlI
  rw [List.getElem?_append_left (by simp; omega), List.getElem?_take, if_pos (by omega), h]
theorem dlI_stay {q : Tld → Bool} {us : List Tld} {j : Nat} {x : Tld} (h : us[j]? = some x) (hq : q x = true) : dlI q us (j + 1) = dlI q us j := by
  obtain ⟨hj, rfl⟩ := List.getElem?_eq_some_iff.1 h
  unfold dlI
  rw [take_succ_get h, List.drop_eq_getElem_cons hj, List.filter_cons_of_pos hq, List.append_assoc]
  rfl
theorem dlI_gone {q : Tld → Bool} {us : List Tld} {j : Nat} {x : Tld} (h : us[j]? = some x) (hq : q x = false) : (dlI q us (j + 1)).take j ++ (dlI q us (j + 1)).drop (j + 1) = dlI q us j := by
  obtain ⟨hj, rfl⟩ := List.getElem?_eq_some_iff.1 h
  have hl1 : (us.take j).length = j := by simp; omega
  unfold dlI
  rw [take_succ_get h, List.drop_eq_getElem_cons hj, List.filter_cons_of_neg (by simp [hq]), List.append_assoc, List.take_append_of_le_length (by omega), List.take_of_length_le (by omega), ← List.append_assoc, List.drop_append_of_le_length (by simp; omega), List.drop_of_length_le (by simp; omega), List.nil_append]
theorem dlI_zero (q : Tld → Bool) (us : List Tld) : dlI q us 0 = us.filter q := by simp [dlI]
theorem dlI_all (q : Tld → Bool) (us : List Tld) : dlI q us us.length = us := by simp [dlI]
theorem dlI_len (q : Tld → Bool) (us : List Tld) (j : Nat) : (dlI q us j).length ≤ us.length := by
  unfold dlI
  have := List.length_filter_le q (us.drop j)
  simp only [List.length_append, List.length_take, List.length_drop] at this ⊢
  omega

structure DlI (nx0 : Nat) (H0 : AH) (q4 q6 : Nat) (tail : Int → Env) (now : Int) (q : Tld → Bool) (us : List Tld) (ownu : Nat) (m : Nat) (env : Env) (H : AH) (nx j : Nat) (s : Value) (own1 : Nat) : Prop where
  hm : m = j
  hj : j ≤ us.length
  henv : env = (4, .pointer (some ⟨q4, 0, none⟩)) :: (6, .pointer (some ⟨q6, 0, none⟩)) :: tail ((j : Int) - 1)
  hx : nx0 ≤ nx
  hkp : Kp (fun b => b = q4) nx0 H0 H
  c40 : H.c q4 0 = some s
  c41 : H.c q4 1 = some (.int .u64 now)
  hs : SlA nx H 7 s (dlI q us j).length (tdCells (dlI q us j)) own1
  ho : own1 = ownu ∨ own1 = 0 ∨ nx0 < own1

set_option maxRecDepth 20000 in
set_option maxHeartbeats 4000000 in
theorem do_drop {lo : Nat} {p : Nat} {ts us : List Tld} {own ownu n : Nat} {H : AH} {nx : Nat} {s : Value} {now : Int} (hR : RouA lo nx H p ts own) (hs : SlA nx H 7 s us.length (tdCells us) ownu) (hou : ownu = 0 ∨ (lo < ownu ∧ ownu ≠ own ∧ ownu ≠ p + 1)) (hT : TSt n ts us now) (hn : n ≤ 100)
    (k b0 pp sq mt : Int) (k0 : 0 ≤ k) (b00 : 0 ≤ b0) (p0 : 0 ≤ pp) (p1 : pp ≤ 255) (hk : k % 11 = 7) :
    ACalls Try.prog lo 9 #[.pointer (some ⟨p, 0, none⟩), .agg #[s, .int .u64 now], .agg #[.int .u8 k, .int .u8 b0, .int .u8 pp, .int .u8 sq, .int .u16 mt]] H nx (fun v H' nx' => nx ≤ nx' ∧ Kp (fun b => b = p ∨ b + 1 = own) nx H H' ∧ ∃ s' ts' us' own' ownu' now', DoR lo nx p own ownu n v H' nx' s' ts' us' own' ownu' now') := by
  refine ACalls.withLo fun hlo => ?_
  refine acalls_of_awp L9 Try.func9 rfl (by kernel_rfl) ?_
  obtain ⟨sa, sc, rfl⟩ := hs.form
  have hlt := hR.lt
  have hge := hR.ge
  have hne := hR.ne
  have hle := hs.le
  have hleo := hR.q.choose_spec.2.le
  have hgeo := hR.ow
  have hlen := hT.len
  have hlenu := hT.lenu
  simp (disch := omega) only [go_sem, ↓reduceIte ]
  intro q4 h4
  simp (disch := omega) only [go_sem, ↓reduceIte ]
  intro q5 h5
  simp (disch := omega) only [go_sem, ↓reduceIte ]
  intro q6 h6
  simp (disch := omega) only [go_sem, ↓reduceIte ]
  refine (pfx_c pp p0 p1 _ _).mono fun v H1 nx1 _ ⟨hv, hx1, hk1⟩ => ?_
  subst hv
  have hc1 := hk1.cell0
  simp (disch := omega) only [go_sem, ↓reduceIte ]
  intro q9 h9
  simp (disch := omega) only [go_sem, ↓reduceIte , hc1]
  have hk2 : Kp (fun _ => False) nx H ((((H1.new q9 #[.int .u32 0, .int .u8 0] 39).put q9 0 (.int .u32 (pfxA pp))).put q9 1 (.int .u8 (pfxN pp)))) := (by repeat first | exact Kp.refl _ _ _ | refine Kp.dropT ?_ (.inl (by omega)) | refine Kp.put ?_ (.inl (by omega)) | refine Kp.new ?_ (by omega) | refine Kp.put ?_ (.inr (by omega)) | refine Kp.trans0 ?_ (by assumption) (by omega) | refine Kp.transS ?_ (by assumption) (by omega) (fun b hb hT => by first | omega | (dsimp only at hT ⊢; omega) | (simp only at hT ⊢; omega))) 
  have hR2 : RouA lo (q9 + 1) _ p ts own := hR.kp (S := fun _ => False) hk2 (by omega) (by simp) (by simp)
  have hs2 : SlA (q9 + 1) _ 7 (.slice sa us.length sc) us.length (tdCells us) ownu := hs.kp (S := fun _ => False) hk2 (by omega) (by simp)
  refine (rdrop_c hR2 (by omega) (b0 % 8)).mono fun v H3 nx3 _ ⟨hv, hx3, hk3, hR3⟩ => ?_
  subst hv
  have hc3 := hk3.cell
  have hs3 : SlA nx3 H3 7 (.slice sa us.length sc) us.length (tdCells us) ownu := hs2.kp hk3 hx3 (by omega)
  have hk03 : Kp (fun b => b = p ∨ b + 1 = own) nx H H3 := (by repeat first | exact Kp.refl _ _ _ | refine Kp.dropT ?_ (.inl (by omega)) | refine Kp.put ?_ (.inl (by omega)) | refine Kp.new ?_ (by omega) | refine Kp.put ?_ (.inr (by omega)) | refine Kp.trans0 ?_ (by assumption) (by omega) | refine Kp.transS ?_ (by assumption) (by omega) (fun b hb hT => by first | omega | (dsimp only at hT ⊢; omega) | (simp only at hT ⊢; omega))) 
  have e40 : H3.c q4 0 = some (.slice sa us.length sc) := by simp (disch := omega) only [go_sem, ↓reduceIte , hc3, hc1]
  have e41 : H3.c q4 1 = some (.int .u64 now) := by simp (disch := omega) only [go_sem, ↓reduceIte , hc3, hc1]
  have e60 : H3.c q6 0 = some (.slice none 0 0) := by simp (disch := omega) only [go_sem, ↓reduceIte , hc3, hc1]
  have e61 : H3.c q6 1 = some (.int .u64 0) := by simp (disch := omega) only [go_sem, ↓reduceIte , hc3, hc1]
  simp (disch := omega) only [go_sem, ↓reduceIte , e40]
  refine awp_loop (fun m env H4 nx4 => ∃ j s1 own1, DlI nx3 H3 q4 q6 (fun i => [(8, .int .i64 (b0 % 8)), (13, .int .i64 i)]) now (fun t => !decide (t.who = b0 % 8)) us ownu m env H4 nx4 j s1 own1) us.length ⟨us.length, .slice sa us.length sc, ownu, ⟨rfl, Nat.le_refl _, rfl, Nat.le_refl _, Kp.refl _ _ _, e40, e41, by rw [dlI_all]; exact hs3, .inl rfl⟩⟩ (fun m env H4 nx4 ⟨j, s1, own1, hI⟩ hn4 => ?_)
  obtain ⟨hm, hj, henv, hx4, hk4, c40, c41, hs4, ho4⟩ := hI
  subst henv
  have hc4 := hk4.cell
  have hdl := dlI_len (fun t => !decide (t.who = b0 % 8)) us j
  obtain ⟨za, zc, rfl⟩ := hs4.form
  by_cases hj0 : j = 0
  · subst hj0
    rw [dlI_zero] at hs4 c40
    have hle4 := hs4.le
    have hle3 := hR3.q.choose_spec.2.le
    simp (disch := omega) only [go_sem, ↓reduceIte , c40, c41, hc4, e60, e61]
    refine ⟨by omega, (by repeat first | exact Kp.refl _ _ _ | refine Kp.dropT ?_ (.inl (by omega)) | refine Kp.put ?_ (.inl (by omega)) | refine Kp.new ?_ (by omega) | refine Kp.put ?_ (.inr (by omega)) | refine Kp.trans0 ?_ (by assumption) (by omega) | refine Kp.transS ?_ (by assumption) (by omega) (fun b hb hT => by first | omega | (dsimp only at hT ⊢; omega) | (simp only at hT ⊢; omega))) , _, _, _, own, own1, now, ⟨rfl, hR3.kp (S := fun b => b = q4 ∨ b = q6) (nx' := nx4) (by repeat first | exact Kp.refl _ _ _ | refine Kp.dropT ?_ (.inl (by omega)) | refine Kp.put ?_ (.inl (by omega)) | refine Kp.new ?_ (by omega) | refine Kp.put ?_ (.inr (by omega)) | refine Kp.trans0 ?_ (by assumption) (by omega) | refine Kp.transS ?_ (by assumption) (by omega) (fun b hb hT => by first | omega | (dsimp only at hT ⊢; omega) | (simp only at hT ⊢; omega)))  (by omega) (by omega) (by intro b hb; omega), (hs4.put (by omega)).put (by omega), .inl rfl, by omega, by omega, hT.filter _⟩⟩
  · obtain ⟨i, rfl⟩ : ∃ i, j = i + 1 := ⟨j - 1, by omega⟩
    obtain ⟨x, hx0⟩ : ∃ x, us[i]? = some x := ⟨_, List.getElem?_eq_getElem (by omega)⟩
    have hgx := dlI_get (q := fun t => !decide (t.who = b0 % 8)) hx0
    have hil := (List.getElem?_eq_some_iff.1 hgx).1
    obtain ⟨g, off, cp, hv, hg⟩ := hs4.open (by omega)
    cases hv
    have x2 := td_cells hs4 hgx 2 (by omega)
    simp only [Tld.cells, List.getElem?_cons_zero, List.getElem?_cons_succ] at x2
    rw [show ((i + 1 : Nat) : Int) - 1 = (i : Int) by omega]
    by_cases hw : x.who = b0 % 8
    · simp (disch := omega) only [go_sem, ↓reduceIte , c40, c41, x2, hw]
      refine (twithout_c hs4 (by omega) now i hil).mono fun v H5 nx5 _ ⟨hx5, hk5, s5, own5, hv, hs5, ho5⟩ => ?_
      subst hv
      have hone5 := hs5.one
      have hc5 := hk5.cell0
      rw [dlI_gone hx0 (by simp [hw])] at hs5
      have hle5 := hs5.le
      simp (disch := omega) only [go_sem, ↓reduceIte , hone5, c40, c41, hc5]
      exact ⟨i, by omega, i, s5, own5, ⟨rfl, by omega, rfl, by omega, (by repeat first | exact Kp.refl _ _ _ | refine Kp.dropT ?_ (.inl (by omega)) | refine Kp.put ?_ (.inl (by omega)) | refine Kp.new ?_ (by omega) | refine Kp.put ?_ (.inr (by omega)) | refine Kp.trans0 ?_ (by assumption) (by omega) | refine Kp.transS ?_ (by assumption) (by omega) (fun b hb hT => by first | omega | (dsimp only at hT ⊢; omega) | (simp only at hT ⊢; omega))) , by simp (disch := omega) only [go_sem, ↓reduceIte ], by simp (disch := omega) only [go_sem, ↓reduceIte ], (hs5.put (by omega)).put (by omega), by omega⟩⟩
    · simp (disch := omega) only [go_sem, ↓reduceIte , c40, c41, x2, hw]
      rw [dlI_stay hx0 (by simp [hw])] at hs4 c40
      exact ⟨i, by omega, i, _, own1, ⟨rfl, by omega, rfl, by omega, hk4, c40, c41, hs4, ho4⟩⟩
end Go.Proofs.Ytgopmklcggoliaa
