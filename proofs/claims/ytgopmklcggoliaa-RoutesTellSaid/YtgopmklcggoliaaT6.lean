/- An act on routes, and by the letter: time goes by; any act. -/
import Derived.Test.YtgopmklcggoliaaT5
namespace Go.Proofs.Ytgopmklcggoliaa
open Go.RowKit
set_option linter.unusedSimpArgs false

theorem TSt.tick {n : Nat} {ts us : List Tld} {now : Int} (h : TSt n ts us now) {d : Int} (h0 : 0 ≤ d) (h1 : d ≤ 40) {q : Tld → Bool} : TSt (n + 1) (ts.filter q) (us.filter q) (now + d) :=
  ⟨h.perm.filter q, h.uq.filter q, fun t ht => h.ok t (List.mem_filter.1 ht).1, Nat.le_trans (List.length_filter_le _ _) (by have := h.len; omega), by have := h.now0; omega, by have := h.now1; omega⟩

set_option maxRecDepth 20000 in
set_option maxHeartbeats 4000000 in
theorem do_tick {lo : Nat} {p : Nat} {ts us : List Tld} {own ownu n : Nat} {H : AH} {nx : Nat} {s : Value} {now : Int} (hR : RouA lo nx H p ts own) (hs : SlA nx H 7 s us.length (tdCells us) ownu) (hou : ownu = 0 ∨ (lo < ownu ∧ ownu ≠ own ∧ ownu ≠ p + 1)) (hT : TSt n ts us now) (hn : n ≤ 100)
    (k b0 pp sq mt : Int) (k0 : 0 ≤ k) (b00 : 0 ≤ b0) (p0 : 0 ≤ pp) (p1 : pp ≤ 255) (s0 : 0 ≤ sq) (hk : 7 < k % 11) :
    ACalls Try.prog lo 9 #[.pointer (some ⟨p, 0, none⟩), .agg #[s, .int .u64 now], .agg #[.int .u8 k, .int .u8 b0, .int .u8 pp, .int .u8 sq, .int .u16 mt]] H nx (fun v H' nx' => nx ≤ nx' ∧ Kp (fun b => b = p ∨ b + 1 = own) nx H H' ∧ ∃ s' ts' us' own' ownu' now', DoR lo nx p own ownu n v H' nx' s' ts' us' own' ownu' now') := by
  refine ACalls.withLo fun hlo => ?_
  refine acalls_of_awp L9 Try.func9 rfl (by kernel_rfl) ?_
  obtain ⟨sa, sc, rfl⟩ := hs.form
  have hlt := hR.lt
  have hge := hR.ge
  have hne := hR.ne
  have hle := hs.le
  have hleo := hR.q.choose_spec.2.le
  have hgeo := hR.ow
  have hlen := hT.len
  have hlenu := hT.lenu
  have hnow0 := hT.now0
  have hnow1 := hT.now1
  simp (disch := omega) only [go_sem, ↓reduceIte ]
  intro q4 h4
  simp (disch := omega) only [go_sem, ↓reduceIte ]
  intro q5 h5
  simp (disch := omega) only [go_sem, ↓reduceIte ]
  intro q6 h6
  simp (disch := omega) only [go_sem, ↓reduceIte ]
  refine (pfx_c pp p0 p1 _ _).mono fun v H1 nx1 _ ⟨hv, hx1, hk1⟩ => ?_
  subst hv
  have hc1 := hk1.cell0
  simp (disch := omega) only [go_sem, ↓reduceIte ]
  intro q9 h9
  simp (disch := omega) only [go_sem, ↓reduceIte , hc1]
  have hk2 : Kp (fun _ => False) nx H (((((H1.new q9 #[.int .u32 0, .int .u8 0] 39).put q9 0 (.int .u32 (pfxA pp))).put q9 1 (.int .u8 (pfxN pp)))).put q4 1 (.int .u64 (now + sq % 40))) := (by repeat first | exact Kp.refl _ _ _ | refine Kp.dropT ?_ (.inl (by omega)) | refine Kp.put ?_ (.inl (by omega)) | refine Kp.new ?_ (by omega) | refine Kp.put ?_ (.inr (by omega)) | refine Kp.trans0 ?_ (by assumption) (by omega) | refine Kp.transS ?_ (by assumption) (by omega) (fun b hb hT => by first | omega | (dsimp only at hT ⊢; omega) | (simp only at hT ⊢; omega))) 
  have hR2 : RouA lo (q9 + 1) _ p ts own := hR.kp (S := fun _ => False) hk2 (by omega) (by simp) (by simp)
  have hs2 : SlA (q9 + 1) _ 7 (.slice sa us.length sc) us.length (tdCells us) ownu := hs.kp (S := fun _ => False) hk2 (by omega) (by simp)
  refine (rtick_c hR2 (by omega) (now + sq % 40)).mono fun v H3 nx3 _ ⟨hv, hx3, hk3, hR3⟩ => ?_
  subst hv
  have hc3 := hk3.cell
  have hs3 : SlA nx3 H3 7 (.slice sa us.length sc) us.length (tdCells us) ownu := hs2.kp hk3 hx3 (by omega)
  have hk03 : Kp (fun b => b = p ∨ b + 1 = own) nx H H3 := (by repeat first | exact Kp.refl _ _ _ | refine Kp.dropT ?_ (.inl (by omega)) | refine Kp.put ?_ (.inl (by omega)) | refine Kp.new ?_ (by omega) | refine Kp.put ?_ (.inr (by omega)) | refine Kp.trans0 ?_ (by assumption) (by omega) | refine Kp.transS ?_ (by assumption) (by omega) (fun b hb hT => by first | omega | (dsimp only at hT ⊢; omega) | (simp only at hT ⊢; omega))) 
  have e40 : H3.c q4 0 = some (.slice sa us.length sc) := by simp (disch := omega) only [go_sem, ↓reduceIte , hc3, hc1]
  have e41 : H3.c q4 1 = some (.int .u64 (now + sq % 40)) := by simp (disch := omega) only [go_sem, ↓reduceIte , hc3, hc1]
  have e60 : H3.c q6 0 = some (.slice none 0 0) := by simp (disch := omega) only [go_sem, ↓reduceIte , hc3, hc1]
  have e61 : H3.c q6 1 = some (.int .u64 0) := by simp (disch := omega) only [go_sem, ↓reduceIte , hc3, hc1]
  simp (disch := omega) only [go_sem, ↓reduceIte , e40]
  refine awp_loop (fun m env H4 nx4 => ∃ j s1 own1, DlI nx3 H3 q4 q6 (fun i => [(14, .int .i64 i)]) (now + sq % 40) (fun t => !decide (t.til ≤ now + sq % 40)) us ownu m env H4 nx4 j s1 own1) us.length ⟨us.length, .slice sa us.length sc, ownu, ⟨rfl, Nat.le_refl _, rfl, Nat.le_refl _, Kp.refl _ _ _, e40, e41, by rw [dlI_all]; exact hs3, .inl rfl⟩⟩ (fun m env H4 nx4 ⟨j, s1, own1, hI⟩ hn4 => ?_)
  obtain ⟨hm, hj, henv, hx4, hk4, c40, c41, hs4, ho4⟩ := hI
  subst henv
  have hc4 := hk4.cell
  have hdl := dlI_len (fun t => !decide (t.til ≤ now + sq % 40)) us j
  obtain ⟨za, zc, rfl⟩ := hs4.form
  by_cases hj0 : j = 0
  · subst hj0
    rw [dlI_zero] at hs4 c40
    have hle4 := hs4.le
    have hle3 := hR3.q.choose_spec.2.le
    simp (disch := omega) only [go_sem, ↓reduceIte , c40, c41, hc4, e60, e61]
    refine ⟨by omega, (by repeat first | exact Kp.refl _ _ _ | refine Kp.dropT ?_ (.inl (by omega)) | refine Kp.put ?_ (.inl (by omega)) | refine Kp.new ?_ (by omega) | refine Kp.put ?_ (.inr (by omega)) | refine Kp.trans0 ?_ (by assumption) (by omega) | refine Kp.transS ?_ (by assumption) (by omega) (fun b hb hT => by first | omega | (dsimp only at hT ⊢; omega) | (simp only at hT ⊢; omega))) , _, _, _, own, own1, now + sq % 40, ⟨rfl, hR3.kp (S := fun b => b = q4 ∨ b = q6) (nx' := nx4) (by repeat first | exact Kp.refl _ _ _ | refine Kp.dropT ?_ (.inl (by omega)) | refine Kp.put ?_ (.inl (by omega)) | refine Kp.new ?_ (by omega) | refine Kp.put ?_ (.inr (by omega)) | refine Kp.trans0 ?_ (by assumption) (by omega) | refine Kp.transS ?_ (by assumption) (by omega) (fun b hb hT => by first | omega | (dsimp only at hT ⊢; omega) | (simp only at hT ⊢; omega)))  (by omega) (by omega) (by intro b hb; omega), (hs4.put (by omega)).put (by omega), .inl rfl, by omega, by omega, hT.tick (by omega) (by omega)⟩⟩
  · obtain ⟨i, rfl⟩ : ∃ i, j = i + 1 := ⟨j - 1, by omega⟩
    obtain ⟨x, hx0⟩ : ∃ x, us[i]? = some x := ⟨_, List.getElem?_eq_getElem (by omega)⟩
    have hgx := dlI_get (q := fun t => !decide (t.til ≤ now + sq % 40)) hx0
    have hil := (List.getElem?_eq_some_iff.1 hgx).1
    obtain ⟨g, off, cp, hv, hg⟩ := hs4.open (by omega)
    cases hv
    have x2 := td_cells hs4 hgx 6 (by omega)
    simp only [Tld.cells, List.getElem?_cons_zero, List.getElem?_cons_succ] at x2
    rw [show ((i + 1 : Nat) : Int) - 1 = (i : Int) by omega]
    by_cases hw : x.til ≤ now + sq % 40
    · simp (disch := omega) only [go_sem, ↓reduceIte ]
      refine awp_draw ord9x9 (by kernel_rfl) ?_
      simp (disch := omega) only [go_sem, ↓reduceIte , ord9x9, c40, c41, x2, hw]
      refine (twithout_c hs4 (by omega) (now + sq % 40) i hil).mono fun v H5 nx5 _ ⟨hx5, hk5, s5, own5, hv, hs5, ho5⟩ => ?_
      subst hv
      have hone5 := hs5.one
      have hc5 := hk5.cell0
      rw [dlI_gone hx0 (by simp [hw])] at hs5
      have hle5 := hs5.le
      simp (disch := omega) only [go_sem, ↓reduceIte , hone5, c40, c41, hc5]
      exact ⟨i, by omega, i, s5, own5, ⟨rfl, by omega, rfl, by omega, (by repeat first | exact Kp.refl _ _ _ | refine Kp.dropT ?_ (.inl (by omega)) | refine Kp.put ?_ (.inl (by omega)) | refine Kp.new ?_ (by omega) | refine Kp.put ?_ (.inr (by omega)) | refine Kp.trans0 ?_ (by assumption) (by omega) | refine Kp.transS ?_ (by assumption) (by omega) (fun b hb hT => by first | omega | (dsimp only at hT ⊢; omega) | (simp only at hT ⊢; omega))) , by simp (disch := omega) only [go_sem, ↓reduceIte ], by simp (disch := omega) only [go_sem, ↓reduceIte ], (hs5.put (by omega)).put (by omega), by omega⟩⟩
    · simp (disch := omega) only [go_sem, ↓reduceIte ]
      refine awp_draw ord9x9 (by kernel_rfl) ?_
      simp (disch := omega) only [go_sem, ↓reduceIte , ord9x9, c40, c41, x2, hw]
      rw [dlI_stay hx0 (by simp [hw])] at hs4 c40
      exact ⟨i, by omega, i, _, own1, ⟨rfl, by omega, rfl, by omega, hk4, c40, c41, hs4, ho4⟩⟩

theorem do_c {lo : Nat} {p : Nat} {ts us : List Tld} {own ownu n : Nat} {H : AH} {nx : Nat} {s : Value} {now : Int} (hR : RouA lo nx H p ts own) (hs : SlA nx H 7 s us.length (tdCells us) ownu) (hou : ownu = 0 ∨ (lo < ownu ∧ ownu ≠ own ∧ ownu ≠ p + 1)) (hT : TSt n ts us now) (hn : n ≤ 100)
    (k b0 pp sq mt : Int) (k0 : 0 ≤ k) (b00 : 0 ≤ b0) (p0 : 0 ≤ pp) (p1 : pp ≤ 255) (s0 : 0 ≤ sq) (s1 : sq ≤ 255) (m0 : 0 ≤ mt) (m1 : mt ≤ 65535) :
    ACalls Try.prog lo 9 #[.pointer (some ⟨p, 0, none⟩), .agg #[s, .int .u64 now], .agg #[.int .u8 k, .int .u8 b0, .int .u8 pp, .int .u8 sq, .int .u16 mt]] H nx (fun v H' nx' => nx ≤ nx' ∧ Kp (fun b => b = p ∨ b + 1 = own) nx H H' ∧ ∃ s' ts' us' own' ownu' now', DoR lo nx p own ownu n v H' nx' s' ts' us' own' ownu' now') := by
  rcases (by omega : k % 11 < 7 ∨ k % 11 = 7 ∨ 7 < k % 11) with h | h | h
  · exact do_tell hR hs hou hT hn k b0 pp sq mt k0 b00 p0 p1 s0 s1 m0 m1 h
  · exact do_drop hR hs hou hT hn k b0 pp sq mt k0 b00 p0 p1 h
  · exact do_tick hR hs hou hT hn k b0 pp sq mt k0 b00 p0 p1 s0 h
end Go.Proofs.Ytgopmklcggoliaa
