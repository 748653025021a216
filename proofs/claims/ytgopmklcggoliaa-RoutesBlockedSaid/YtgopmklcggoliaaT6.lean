/- An act on routes, and by the letter: something is told. An act on routes, and by the letter: all that a neighbor told is gone; time goes by. An act on routes, and by the letter: time goes by; any act. -/
import Derived.Test.YtgopmklcggoliaaT3
section
namespace Go.Proofs.Ytgopmklcggoliaa
open Go.RowKit
set_option linter.unusedSimpArgs false

structure TSt (n : Nat) (ts us : List Tld) (now : Int) : Prop where
  perm : us.Perm ts
  uq : UqT ts
  ok : ∀ t ∈ ts, TdOk t ∧ 0 ≤ t.metric ∧ t.metric ≤ 65535
  len : ts.length ≤ n
  now0 : 0 ≤ now
  now1 : now ≤ 40 * n
  more : ∀ t ∈ ts, pxRightC t.addr t.len = true ∧ 0 ≤ t.seq ∧ t.seq ≤ 3
  far : ∀ t ∈ ts, 0 ≤ t.who ∧ t.who < 8 ∧ ∃ a, 0 ≤ a ∧ t.addr = pfxA a ∧ t.len = pfxN a
theorem TSt.uqu {n : Nat} {ts us : List Tld} {now : Int} (h : TSt n ts us now) : UqT us := h.uq.perm h.perm.symm
theorem TSt.lenu {n : Nat} {ts us : List Tld} {now : Int} (h : TSt n ts us now) : us.length ≤ n := by rw [h.perm.length_eq]; exact h.len
theorem TSt.filter {n : Nat} {ts us : List Tld} {now : Int} (h : TSt n ts us now) (q : Tld → Bool) : TSt (n + 1) (ts.filter q) (us.filter q) now :=
  ⟨h.perm.filter q, h.uq.filter q, fun t ht => h.ok t (List.mem_filter.1 ht).1, Nat.le_trans (List.length_filter_le _ _) (by have := h.len; omega), h.now0, by have := h.now1; omega, fun t ht => h.more t (List.mem_filter.1 ht).1, fun t ht => h.far t (List.mem_filter.1 ht).1⟩
theorem TSt.told {n : Nat} {ts us ts' : List Tld} {now : Int} (h : TSt n ts us now) {x : Tld} (hx : TdOk x) (h0 : 0 ≤ x.metric) (h1 : x.metric ≤ 65535) (hpx : pxRightC x.addr x.len = true) (hs0 : 0 ≤ x.seq) (hs1 : x.seq ≤ 3) (hw0 : 0 ≤ x.who) (hw1 : x.who < 8) {pa : Int} (hpa : 0 ≤ pa) (hwa : x.addr = pfxA pa) (hwn : x.len = pfxN pa) (hp : ts'.Perm (delK x ts ++ toldR x)) : TSt (n + 1) ts' (delK x us ++ toldR x) now := by
  have hlt : (toldR x).length ≤ 1 := by unfold toldR; split <;> simp
  refine ⟨((h.perm.filter _).append_right _).trans hp.symm, UqT.perm ?_ hp.symm, fun t ht => ?_, ?_, h.now0, by have := h.now1; omega, fun t ht => ?_, fun t ht => ?_⟩
  · unfold UqT
    rw [List.pairwise_append]
    refine ⟨h.uq.filter _, ?_, fun a ha b hb => ?_⟩
    · unfold toldR; split <;> simp
    · have hb' : b = x := by
        unfold toldR at hb
        split at hb <;> simp at hb
        exact hb
      subst hb'
      have := (List.mem_filter.1 ha).2
      rw [hitT_symm]
      simpa using this
  · have ht2 := hp.mem_iff.1 ht
    rcases List.mem_append.1 ht2 with ht3 | ht3
    · exact h.ok t (List.mem_filter.1 ht3).1
    · unfold toldR at ht3
      split at ht3 <;> simp at ht3
      subst ht3
      exact ⟨hx, h0, h1⟩
  · rw [hp.length_eq, List.length_append]
    have := List.length_filter_le (fun t => !hitT x t) ts
    have := h.len
    unfold delK
    omega
  · have ht2 := hp.mem_iff.1 ht
    rcases List.mem_append.1 ht2 with ht3 | ht3
    · exact h.more t (List.mem_filter.1 ht3).1
    · unfold toldR at ht3
      split at ht3 <;> simp at ht3
      subst ht3
      exact ⟨hpx, hs0, hs1⟩
  · have ht2 := hp.mem_iff.1 ht
    rcases List.mem_append.1 ht2 with ht3 | ht3
    · exact h.far t (List.mem_filter.1 ht3).1
    · unfold toldR at ht3
      split at ht3 <;> simp at ht3
      subst ht3
      exact ⟨hw0, hw1, pa, hpa, hwa, hwn⟩

/-- Behind an act. -/
structure DoR (lo nx0 : Nat) (p own ownu n : Nat) (v : Value) (H : AH) (nx : Nat) (s' : Value) (ts' us' : List Tld) (own' ownu' : Nat) (now' : Int) : Prop where
  hv : v = .tuple #[.agg #[s', .int .u64 now'], .bool true]
  hR : RouA lo nx H p ts' own'
  hs : SlA nx H 7 s' us'.length (tdCells us') ownu'
  ho : own' = own ∨ nx0 < own'
  hou : ownu' = 0 ∨ ownu' = ownu ∨ nx0 < ownu'
  hne : ownu' = 0 ∨ (lo < ownu' ∧ ownu' ≠ own' ∧ ownu' ≠ p + 1)
  hT : TSt (n + 1) ts' us' now'

structure D1 (S : Nat → Prop) (nx : Nat) (H : AH) (q4 q5 q6 q9 q11 : Nat) (s : Value) (now sq a l sq4 mt : Int) (h : AH) (n : Nat) : Prop where
  c40 : h.c q4 0 = some s
  c41 : h.c q4 1 = some (.int .u64 now)
  c53 : h.c q5 3 = some (.int .u8 sq)
  c60 : h.c q6 0 = some (.slice none 0 0)
  c61 : h.c q6 1 = some (.int .u64 0)
  c90 : h.c q9 0 = some (.int .u32 a)
  c91 : h.c q9 1 = some (.int .u8 l)
  c110 : h.c q11 0 = some (.int .u16 sq4)
  c111 : h.c q11 1 = some (.int .u16 mt)
  kp : Kp S nx H h
  lt : q11 < n

set_option maxRecDepth 20000 in
set_option maxHeartbeats 4000000 in
theorem do_tell {lo : Nat} {p : Nat} {ts us : List Tld} {own ownu n : Nat} {H : AH} {nx : Nat} {s : Value} {now : Int} (hR : RouA lo nx H p ts own) (hs : SlA nx H 7 s us.length (tdCells us) ownu) (hou : ownu = 0 ∨ (lo < ownu ∧ ownu ≠ own ∧ ownu ≠ p + 1)) (hT : TSt n ts us now) (hn : n ≤ 100)
    (k b0 pp sq mt : Int) (k0 : 0 ≤ k) (b00 : 0 ≤ b0) (p0 : 0 ≤ pp) (p1 : pp ≤ 255) (s0 : 0 ≤ sq) (s1 : sq ≤ 255) (m0 : 0 ≤ mt) (m1 : mt ≤ 65535) (hk : k % 11 < 7) :
    ACalls Try.prog lo 9 #[.pointer (some ⟨p, 0, none⟩), .agg #[s, .int .u64 now], .agg #[.int .u8 k, .int .u8 b0, .int .u8 pp, .int .u8 sq, .int .u16 mt]] H nx (fun v H' nx' => nx ≤ nx' ∧ Kp (fun b => b = p ∨ b + 1 = own) nx H H' ∧ ∃ s' ts' us' own' ownu' now', DoR lo nx p own ownu n v H' nx' s' ts' us' own' ownu' now') := by
  refine ACalls.withLo fun hlo => ?_
  refine acalls_of_awp L9 Try.func9 rfl (by kernel_rfl) ?_
  obtain ⟨sa, sc, rfl⟩ := hs.form
  have hlt := hR.lt
  have hge := hR.ge
  have hne := hR.ne
  have hle := hs.le
  have hleo := hR.q.choose_spec.2.le
  have hnow0 := hT.now0
  have hnow1 := hT.now1
  simp (disch := omega) only [go_sem, ↓reduceIte ]
  intro q4 h4
  simp (disch := omega) only [go_sem, ↓reduceIte ]
  intro q5 h5
  simp (disch := omega) only [go_sem, ↓reduceIte ]
  intro q6 h6
  simp (disch := omega) only [go_sem, ↓reduceIte ]
  obtain ⟨a0, a1, l0, l1, hpx⟩ := pfx_range pp
  refine (pfx_c pp p0 p1 _ _).mono fun v H1 nx1 _ ⟨hv, hx1, hk1⟩ => ?_
  subst hv
  have hc1 := hk1.cell0
  simp (disch := omega) only [go_sem, ↓reduceIte ]
  intro q9 h9
  simp (disch := omega) only [go_sem, ↓reduceIte , hc1]
  intro q11 h11
  generalize hG : awp Try.prog lo L9 = G
  simp (disch := omega) only [go_sem, ↓reduceIte ]
  rw [← hG]
  have hmemo : ∃ mt2 : Int, (mt2 = if k % 11 = 6 then 65535 else mt) ∧ 0 ≤ mt2 ∧ mt2 ≤ 65535 := ⟨_, rfl, by split <;> omega, by split <;> omega⟩
  obtain ⟨mt2, hmt, mt20, mt21⟩ := hmemo
  refine awp_cutE (fun e h n => ∃ r, e = (0, .pointer (some ⟨p, 0, none⟩)) :: (4, .pointer (some ⟨q4, 0, none⟩)) :: (5, .pointer (some ⟨q5, 0, none⟩)) :: (6, .pointer (some ⟨q6, 0, none⟩)) :: (8, .int .i64 (b0 % 8)) :: (9, .pointer (some ⟨q9, 0, none⟩)) :: (11, .pointer (some ⟨q11, 0, none⟩)) :: r ∧ D1 (fun _ => False) nx H q4 q5 q6 q9 q11 (.slice sa us.length sc) now sq (pfxA pp) (pfxN pp) (sq % 4) mt2 h n) (fun K hK => ?_) (fun e H2 nx2 ⟨r, he, hD⟩ => ?_)
  · clear hG
    by_cases h6 : k % 11 = 6
    · rw [if_pos h6] at hmt
      subst hmt
      simp (disch := omega) only [go_sem, ↓reduceIte , h6]
      refine hK _ _ _ ⟨_, rfl, ⟨by simp (disch := omega) only [go_sem, ↓reduceIte , hc1], by simp (disch := omega) only [go_sem, ↓reduceIte , hc1], by simp (disch := omega) only [go_sem, ↓reduceIte , hc1], by simp (disch := omega) only [go_sem, ↓reduceIte , hc1], by simp (disch := omega) only [go_sem, ↓reduceIte , hc1], by simp (disch := omega) only [go_sem, ↓reduceIte , hc1], by simp (disch := omega) only [go_sem, ↓reduceIte , hc1], by simp (disch := omega) only [go_sem, ↓reduceIte , hc1], by simp (disch := omega) only [go_sem, ↓reduceIte , hc1], (by repeat first | exact Kp.refl _ _ _ | refine Kp.dropT ?_ (.inl (by omega)) | refine Kp.put ?_ (.inl (by omega)) | refine Kp.new ?_ (by omega) | refine Kp.put ?_ (.inr (by omega)) | refine Kp.trans0 ?_ (by assumption) (by omega) | refine Kp.transS ?_ (by assumption) (by omega) (fun b hb hT => by first | omega | (dsimp only at hT ⊢; omega) | (simp only at hT ⊢; omega))) , by omega⟩⟩
    · rw [if_neg h6] at hmt
      subst hmt
      simp (disch := omega) only [go_sem, ↓reduceIte , h6]
      refine hK _ _ _ ⟨_, rfl, ⟨by simp (disch := omega) only [go_sem, ↓reduceIte , hc1], by simp (disch := omega) only [go_sem, ↓reduceIte , hc1], by simp (disch := omega) only [go_sem, ↓reduceIte , hc1], by simp (disch := omega) only [go_sem, ↓reduceIte , hc1], by simp (disch := omega) only [go_sem, ↓reduceIte , hc1], by simp (disch := omega) only [go_sem, ↓reduceIte , hc1], by simp (disch := omega) only [go_sem, ↓reduceIte , hc1], by simp (disch := omega) only [go_sem, ↓reduceIte , hc1], by simp (disch := omega) only [go_sem, ↓reduceIte , hc1], (by repeat first | exact Kp.refl _ _ _ | refine Kp.dropT ?_ (.inl (by omega)) | refine Kp.put ?_ (.inl (by omega)) | refine Kp.new ?_ (by omega) | refine Kp.put ?_ (.inr (by omega)) | refine Kp.trans0 ?_ (by assumption) (by omega) | refine Kp.transS ?_ (by assumption) (by omega) (fun b hb hT => by first | omega | (dsimp only at hT ⊢; omega) | (simp only at hT ⊢; omega))) , by omega⟩⟩
  subst he; subst hG
  obtain ⟨c40, c41, c53, c60, c61, c90, c91, c110, c111, hkD, hltD⟩ := hD
  have hR2 : RouA lo nx2 H2 p ts own := hR.kp (S := fun _ => False) hkD (by omega) (by simp) (by simp)
  have hs2 : SlA nx2 H2 7 (.slice sa us.length sc) us.length (tdCells us) ownu := hs.kp (S := fun _ => False) hkD (by omega) (by simp)
  let x : Tld := ⟨pfxA pp, pfxN pp, b0 % 8, sq % 16, sq % 4, mt2, now + 50⟩
  have hxok : TdOk x := ⟨a0, a1, l0, l1, by simp only [x]; omega, by simp only [x]; omega⟩
  have hlen := hT.len
  simp (disch := omega) only [go_sem, ↓reduceIte , c40, c41, c53, c60, c61, c90, c91, c110, c111]
  refine (tell_c hR2 hT.uq x now hxok (by simp only [x]; omega) (by simp only [x]; omega) hpx hnow0 (by omega) rfl (by omega)).mono fun v H3 nx3 _ ⟨hv, hx3, hk3, ts', own', hR3, ho3, hp3⟩ => ?_
  subst hv
  have hc3 := hk3.cell
  have hs3 : SlA nx3 H3 7 (.slice sa us.length sc) us.length (tdCells us) ownu := hs2.kp hk3 hx3 (by omega)
  have hlenu := hT.lenu
  simp (disch := omega) only [go_sem, ↓reduceIte , c40, c41, c53, c60, c61, c90, c91, c110, c111, hc3]
  refine (tfind_c hs3 (by omega) now (pfxA pp) (pfxN pp) (b0 % 8)).mono fun v H4 nx4 _ ⟨hv, hx4, hk4⟩ => ?_
  have hone : v.oneCell' = true := by rcases hv with ⟨i, t, _, _, rfl, _⟩ | ⟨_, rfl⟩ <;> rfl
  generalize hG : awp Try.prog lo L9 = G
  simp (disch := omega) only [go_sem, ↓reduceIte , hone]
  rw [← hG]
  have hc4 := hk4.cell0
  have hle3 := hR3.q.choose_spec.2.le
  have hk24 : Kp (fun b => b = p ∨ b + 1 = own) nx H H4 := (by repeat first | exact Kp.refl _ _ _ | refine Kp.dropT ?_ (.inl (by omega)) | refine Kp.put ?_ (.inl (by omega)) | refine Kp.new ?_ (by omega) | refine Kp.put ?_ (.inr (by omega)) | refine Kp.trans0 ?_ (by assumption) (by omega) | refine Kp.transS ?_ (by assumption) (by omega) (fun b hb hT => by first | omega | (dsimp only at hT ⊢; omega) | (simp only at hT ⊢; omega))) 
  refine awp_cutE (fun e h n => ∃ r s1 own1, e = (4, .pointer (some ⟨q4, 0, none⟩)) :: (5, .pointer (some ⟨q5, 0, none⟩)) :: (6, .pointer (some ⟨q6, 0, none⟩)) :: (8, .int .i64 (b0 % 8)) :: (9, .pointer (some ⟨q9, 0, none⟩)) :: (11, .pointer (some ⟨q11, 0, none⟩)) :: r ∧ D1 (fun b => b = p ∨ b + 1 = own) nx H q4 q5 q6 q9 q11 s1 now sq (pfxA pp) (pfxN pp) (sq % 4) mt2 h n ∧ SlA n h 7 s1 (delK x us).length (tdCells (delK x us)) own1 ∧ (own1 = ownu ∨ own1 = 0 ∨ nx4 < own1) ∧ RouA lo n h p ts' own' ∧ nx4 ≤ n) (fun K hK => ?_) (fun e H5 nx5 ⟨r, s1, own1, he, hD, hs5, ho5, hR5, hx5⟩ => ?_)
  · clear hG
    have hne3 := hR3.ne
    have hge3 := hR3.ge
    have hlt3 := hR3.lt
    have hs4 : SlA nx4 H4 7 (.slice sa us.length sc) us.length (tdCells us) ownu := hs3.kp hk4 hx4 (by simp)
    have hR4 : RouA lo nx4 H4 p ts' own' := hR3.kp (S := fun _ => False) hk4 hx4 (by simp) (by simp)
    rcases hv with ⟨i, t, hi, hit, rfl, hfst⟩ | ⟨hnone, rfl⟩
    · have hil : i < us.length := (List.getElem?_eq_some_iff.1 hi).1
      simp (disch := omega) only [go_sem, ↓reduceIte , c40, c41, hc3, hc4]
      refine (twithout_c hs4 (by omega) now i hil).mono fun v H5 nx5 _ ⟨hx5, hk5, s5, own5, hv, hs5, ho5⟩ => ?_
      subst hv
      have hone5 := hs5.one
      have hc5 := hk5.cell0
      rw [← delK_at (x := x) hT.uqu hi hit] at hs5
      have hle5 := hs5.le
      simp (disch := omega) only [go_sem, ↓reduceIte , hone5, c40, c41, hc3, hc4, hc5]
      refine hK _ _ _ ⟨_, s5, own5, rfl, ⟨by simp (disch := omega) only [go_sem, ↓reduceIte ], by simp (disch := omega) only [go_sem, ↓reduceIte ], by simp (disch := omega) only [go_sem, ↓reduceIte , c53, hc3, hc4, hc5], by simp (disch := omega) only [go_sem, ↓reduceIte , c60, hc3, hc4, hc5], by simp (disch := omega) only [go_sem, ↓reduceIte , c61, hc3, hc4, hc5], by simp (disch := omega) only [go_sem, ↓reduceIte , c90, hc3, hc4, hc5], by simp (disch := omega) only [go_sem, ↓reduceIte , c91, hc3, hc4, hc5], by simp (disch := omega) only [go_sem, ↓reduceIte , c110, hc3, hc4, hc5], by simp (disch := omega) only [go_sem, ↓reduceIte , c111, hc3, hc4, hc5], (by repeat first | exact Kp.refl _ _ _ | refine Kp.dropT ?_ (.inl (by omega)) | refine Kp.put ?_ (.inl (by omega)) | refine Kp.new ?_ (by omega) | refine Kp.put ?_ (.inr (by omega)) | refine Kp.trans0 ?_ (by assumption) (by omega) | refine Kp.transS ?_ (by assumption) (by omega) (fun b hb hT => by first | omega | (dsimp only at hT ⊢; omega) | (simp only at hT ⊢; omega))) , by omega⟩, (hs5.put (by omega)).put (by omega), by omega, ?_, by omega⟩
      exact hR4.kp (S := fun b => b = q4) (nx' := nx5) (by repeat first | exact Kp.refl _ _ _ | refine Kp.dropT ?_ (.inl (by omega)) | refine Kp.put ?_ (.inl (by omega)) | refine Kp.new ?_ (by omega) | refine Kp.put ?_ (.inr (by omega)) | refine Kp.trans0 ?_ (by assumption) (by omega) | refine Kp.transS ?_ (by assumption) (by omega) (fun b hb hT => by first | omega | (dsimp only at hT ⊢; omega) | (simp only at hT ⊢; omega)))  (by omega) (by omega) (by intro b hb; omega)
    · simp (disch := omega) only [go_sem, ↓reduceIte ]
      refine hK _ _ _ ⟨_, .slice sa us.length sc, ownu, rfl, ⟨by simp (disch := omega) only [go_sem, ↓reduceIte , c40, hc3, hc4], by simp (disch := omega) only [go_sem, ↓reduceIte , c41, hc3, hc4], by simp (disch := omega) only [go_sem, ↓reduceIte , c53, hc3, hc4], by simp (disch := omega) only [go_sem, ↓reduceIte , c60, hc3, hc4], by simp (disch := omega) only [go_sem, ↓reduceIte , c61, hc3, hc4], by simp (disch := omega) only [go_sem, ↓reduceIte , c90, hc3, hc4], by simp (disch := omega) only [go_sem, ↓reduceIte , c91, hc3, hc4], by simp (disch := omega) only [go_sem, ↓reduceIte , c110, hc3, hc4], by simp (disch := omega) only [go_sem, ↓reduceIte , c111, hc3, hc4], hk24, by omega⟩, ?_, by omega, hR4, by omega⟩
      rw [delK_none (x := x) hnone]
      exact hs4
  subst he; subst hG
  obtain ⟨d40, d41, d53, d60, d61, d90, d91, d110, d111, hkE, hltE⟩ := hD
  obtain ⟨b5, z5, rfl⟩ := hs5.form
  have hle5 := hs5.le
  have hleR := hR5.q.choose_spec.2.le
  have hneR := hR5.ne
  have hldu : (delK x us).length ≤ us.length := List.length_filter_le _ _
  have hgeo := hR5.ow
  have hT2 := hT.told hxok mt20 mt21 hpx (by simp only [x]; omega) (by simp only [x]; omega) (by simp only [x]; omega) (by simp only [x]; omega) p0 rfl rfl hp3
  have hones : ∀ u ∈ tdCells (delK x us), u.oneCell' = true := tdCells_one
  by_cases hmm : mt2 = 65535
  · simp (disch := omega) only [go_sem, ↓reduceIte , d40, d41, d60, d61, d111, hmm]
    have et : toldR x = [] := if_pos hmm
    rw [et, List.append_nil] at hT2
    refine ⟨by omega, (by repeat first | exact Kp.refl _ _ _ | refine Kp.dropT ?_ (.inl (by omega)) | refine Kp.put ?_ (.inl (by omega)) | refine Kp.new ?_ (by omega) | refine Kp.put ?_ (.inr (by omega)) | refine Kp.trans0 ?_ (by assumption) (by omega) | refine Kp.transS ?_ (by assumption) (by omega) (fun b hb hT => by first | omega | (dsimp only at hT ⊢; omega) | (simp only at hT ⊢; omega))) , _, ts', delK x us, own', own1, now, ⟨rfl, ?_, ((hs5.put (by omega)).put (by omega)), by omega, by omega, by omega, hT2⟩⟩
    exact hR5.kp (S := fun b => b = q6) (nx' := nx5) (by repeat first | exact Kp.refl _ _ _ | refine Kp.dropT ?_ (.inl (by omega)) | refine Kp.put ?_ (.inl (by omega)) | refine Kp.new ?_ (by omega) | refine Kp.put ?_ (.inr (by omega)) | refine Kp.trans0 ?_ (by assumption) (by omega) | refine Kp.transS ?_ (by assumption) (by omega) (fun b hb hT => by first | omega | (dsimp only at hT ⊢; omega) | (simp only at hT ⊢; omega)))  (by omega) (by omega) (by intro b hb; omega)
  · have et : toldR x = [x] := if_neg hmm
    rw [et] at hT2
    simp (disch := omega) only [go_sem, ↓reduceIte , d111, hmm]
    refine awp_fork ordT9x21 (by kernel_rfl) ?_
    simp (disch := omega) only [go_sem, ↓reduceIte , ordT9x21, d40, d41, d53, d90, d91, d110, d111]
    have fin : ∀ (H9 : AH) (nx9 own9 : Nat) (v9 : Value), nx5 ≤ nx9 → Kp (fun b => b = q4) nx5 H5 H9 → SlA nx9 H9 7 v9 ((delK x us).length + 1) (tdCells (delK x us) ++ tdCells [x]) own9 → (own9 = 0 ∨ nx5 < own9) → nx ≤ nx9 ∧ Kp (fun b => b = p ∨ b + 1 = own) nx H ((H9.put q6 0 v9).put q6 1 (.int .u64 now)) ∧ ∃ s' ts' us' own' ownu' now', DoR lo nx p own ownu n (.tuple #[.agg #[v9, .int .u64 now], .bool true]) ((H9.put q6 0 v9).put q6 1 (.int .u64 now)) nx9 s' ts' us' own' ownu' now' := fun H9 nx9 own9 v9 w1 w2 w3 w4 => by
      refine ⟨by omega, (by repeat first | exact Kp.refl _ _ _ | refine Kp.dropT ?_ (.inl (by omega)) | refine Kp.put ?_ (.inl (by omega)) | refine Kp.new ?_ (by omega) | refine Kp.put ?_ (.inr (by omega)) | refine Kp.trans0 ?_ (by assumption) (by omega) | refine Kp.transS ?_ (by assumption) (by omega) (fun b hb hT => by first | omega | (dsimp only at hT ⊢; omega) | (simp only at hT ⊢; omega))) , v9, ts', delK x us ++ [x], own', own9, now, ⟨rfl, ?_, ?_, by omega, by omega, by omega, hT2⟩⟩
      · exact hR5.kp (S := fun b => b = q4 ∨ b = q6) (nx' := nx9) (by repeat first | exact Kp.refl _ _ _ | refine Kp.dropT ?_ (.inl (by omega)) | refine Kp.put ?_ (.inl (by omega)) | refine Kp.new ?_ (by omega) | refine Kp.put ?_ (.inr (by omega)) | refine Kp.trans0 ?_ (by assumption) (by omega) | refine Kp.transS ?_ (by assumption) (by omega) (fun b hb hT => by first | omega | (dsimp only at hT ⊢; omega) | (simp only at hT ⊢; omega)))  (by omega) (by omega) (by intro b hb; omega)
      · rw [List.length_append, tdCells_append]
        exact (w3.put (by omega)).put (by omega)
    refine ⟨?_, ?_⟩
    · refine appendQ_two (aw_append sl26 zero43 rfl by43 (SlA.nil _ _ _) (hs5.src sl26 hones) (by simp only [maxLen]; omega) (by omega) (.inl rfl) fun v6 H6 nx6 own6 hn6 hs6 ho6 hk6 _ => ?_)
      rw [Nat.zero_add, List.nil_append] at hs6
      have hk6' : Kp (fun _ => False) nx5 H5 H6 := hk6.mono (Nat.le_refl _) (fun b _ h => by omega)
      have hle6 := hs6.le
      simp (disch := omega) only [go_sem, ↓reduceIte ]
      refine ⟨dkeep_kp hk6', ?_⟩
      refine buildSQ_all (n := 1) [.agg #[.int .u32 (pfxA pp), .int .u8 (pfxN pp), .int .i64 (b0 % 8), .int .i64 (sq % 16), .int .u16 (sq % 4), .int .u16 mt2, .int .u64 (now + 50)]] sl26 zero43 (by omega) (by omega) rfl (by simp [cells_agg]) fun d hd => ?_
      have hlit : SlA (d + 1) _ 7 (.slice (some ⟨d, 0, none⟩) 1 1) 1 (tdCells [x]) (d + 1) := SlA.ofNew (H := H6) (e := 43) (cs := ([Value.agg #[.int .u32 (pfxA pp), .int .u8 (pfxN pp), .int .i64 (b0 % 8), .int .i64 (sq % 16), .int .u16 (sq % 4), .int .u16 mt2, .int .u64 (now + 50)]].flatMap fun v => v.cells.toList).toArray) rfl (by omega) (by simp [maxLen]) (by simp [cells_agg]) (fun j _ => by simp [cells_agg, tdCells, Tld.cells, x])
      have hs7 := hs6.new (vs := ([Value.agg #[.int .u32 (pfxA pp), .int .u8 (pfxN pp), .int .i64 (b0 % 8), .int .i64 (sq % 16), .int .u16 (sq % 4), .int .u16 mt2, .int .u64 (now + 50)]].flatMap fun v => v.cells.toList).toArray) (e := 43) hd
      simp (disch := omega) only [go_sem, ↓reduceIte ]
      refine ⟨dkeep_kp (by repeat first | exact Kp.refl _ _ _ | refine Kp.dropT ?_ (.inl (by omega)) | refine Kp.put ?_ (.inl (by omega)) | refine Kp.new ?_ (by omega) | refine Kp.put ?_ (.inr (by omega)) | refine Kp.trans0 ?_ (by assumption) (by omega) | refine Kp.transS ?_ (by assumption) (by omega) (fun b hb hT => by first | omega | (dsimp only at hT ⊢; omega) | (simp only at hT ⊢; omega))) , ?_⟩
      refine appendQ_two (aw_append sl26 zero43 rfl by43 hs7 (hlit.src sl26 tdCells_one) (by simp only [maxLen]; omega) (by omega) (by omega) fun v8 H8 nx8 own8 hn8 hs8 ho8 hk8 _ => ?_)
      have hk8' : Kp (fun _ => False) nx5 H5 H8 := (hk6'.new (n := d) (vs := ([Value.agg #[.int .u32 (pfxA pp), .int .u8 (pfxN pp), .int .i64 (b0 % 8), .int .i64 (sq % 16), .int .u16 (sq % 4), .int .u16 mt2, .int .u64 (now + 50)]].flatMap fun v => v.cells.toList).toArray) (e := 43) (by omega)).trans (U := fun _ => False) hk8 (by omega) (fun _ _ h => h) (fun b hb h => by omega)
      have hc8 := hk8'.cell0
      have hone8 := hs8.one
      simp (disch := omega) only [go_sem, ↓reduceIte ]
      refine ⟨dkeep_last (by kernel_rfl), ?_⟩
      simp (disch := omega) only [go_sem, ↓reduceIte , hc8, d40, d41, d60, d61, hone8]
      refine ⟨dkeep_last (by kernel_rfl), ?_⟩
      exact fin (H8.put q4 0 v8) nx8 own8 v8 (by omega) (by repeat first | exact Kp.refl _ _ _ | refine Kp.dropT ?_ (.inl (by omega)) | refine Kp.put ?_ (.inl (by omega)) | refine Kp.new ?_ (by omega) | refine Kp.put ?_ (.inr (by omega)) | refine Kp.trans0 ?_ (by assumption) (by omega) | refine Kp.transS ?_ (by assumption) (by omega) (fun b hb hT => by first | omega | (dsimp only at hT ⊢; omega) | (simp only at hT ⊢; omega)))  (hs8.put (by omega)) (by omega)
    · refine buildSQ_all (n := 1) [.agg #[.int .u32 (pfxA pp), .int .u8 (pfxN pp), .int .i64 (b0 % 8), .int .i64 (sq % 16), .int .u16 (sq % 4), .int .u16 mt2, .int .u64 (now + 50)]] sl26 zero43 (by omega) (by omega) rfl (by simp [cells_agg]) fun d hd => ?_
      have hlit : SlA (d + 1) _ 7 (.slice (some ⟨d, 0, none⟩) 1 1) 1 (tdCells [x]) (d + 1) := SlA.ofNew (H := H5) (e := 43) (cs := ([Value.agg #[.int .u32 (pfxA pp), .int .u8 (pfxN pp), .int .i64 (b0 % 8), .int .i64 (sq % 16), .int .u16 (sq % 4), .int .u16 mt2, .int .u64 (now + 50)]].flatMap fun v => v.cells.toList).toArray) rfl (by omega) (by simp [maxLen]) (by simp [cells_agg]) (fun j _ => by simp [cells_agg, tdCells, Tld.cells, x])
      have hs7 := hs5.new (vs := ([Value.agg #[.int .u32 (pfxA pp), .int .u8 (pfxN pp), .int .i64 (b0 % 8), .int .i64 (sq % 16), .int .u16 (sq % 4), .int .u16 mt2, .int .u64 (now + 50)]].flatMap fun v => v.cells.toList).toArray) (e := 43) hd
      simp (disch := omega) only [go_sem, ↓reduceIte ]
      refine ⟨dkeep_kp (by repeat first | exact Kp.refl _ _ _ | refine Kp.dropT ?_ (.inl (by omega)) | refine Kp.put ?_ (.inl (by omega)) | refine Kp.new ?_ (by omega) | refine Kp.put ?_ (.inr (by omega)) | refine Kp.trans0 ?_ (by assumption) (by omega) | refine Kp.transS ?_ (by assumption) (by omega) (fun b hb hT => by first | omega | (dsimp only at hT ⊢; omega) | (simp only at hT ⊢; omega))) , ?_⟩
      refine appendQ_two (aw_append sl26 zero43 rfl by43 (SlA.nil _ _ _) (hs7.src sl26 hones) (by simp only [maxLen]; omega) (by omega) (.inl rfl) fun v6 H6 nx6 own6 hn6 hs6 ho6 hk6 _ => ?_)
      rw [Nat.zero_add, List.nil_append] at hs6
      have hk6f : Kp (fun _ => False) (d + 1) (H5.new d ([Value.agg #[.int .u32 (pfxA pp), .int .u8 (pfxN pp), .int .i64 (b0 % 8), .int .i64 (sq % 16), .int .u16 (sq % 4), .int .u16 mt2, .int .u64 (now + 50)]].flatMap fun v => v.cells.toList).toArray 43) H6 := hk6.mono (Nat.le_refl _) (fun b _ h => by omega)
      have hk6' : Kp (fun _ => False) nx5 H5 H6 := ((Kp.refl (fun _ => False) nx5 H5).new (n := d) (vs := ([Value.agg #[.int .u32 (pfxA pp), .int .u8 (pfxN pp), .int .i64 (b0 % 8), .int .i64 (sq % 16), .int .u16 (sq % 4), .int .u16 mt2, .int .u64 (now + 50)]].flatMap fun v => v.cells.toList).toArray) (e := 43) (by omega)).trans0 hk6f (by omega)
      have hle6 := hs6.le
      simp (disch := omega) only [go_sem, ↓reduceIte ]
      refine ⟨dkeep_kp hk6', ?_⟩
      refine appendQ_two (aw_append sl26 zero43 rfl by43 hs6 ((hlit.kp hk6f (by omega) (by simp)).src sl26 tdCells_one) (by simp only [maxLen]; omega) (by omega) (by omega) fun v8 H8 nx8 own8 hn8 hs8 ho8 hk8 _ => ?_)
      have hk8' : Kp (fun _ => False) nx5 H5 H8 := hk6'.trans (U := fun _ => False) hk8 (by omega) (fun _ _ h => h) (fun b hb h => by omega)
      have hc8 := hk8'.cell0
      have hone8 := hs8.one
      simp (disch := omega) only [go_sem, ↓reduceIte ]
      refine ⟨dkeep_last (by kernel_rfl), ?_⟩
      simp (disch := omega) only [go_sem, ↓reduceIte , hc8, d40, d41, d60, d61, hone8]
      refine ⟨dkeep_last (by kernel_rfl), ?_⟩
      exact fin (H8.put q4 0 v8) nx8 own8 v8 (by omega) (by repeat first | exact Kp.refl _ _ _ | refine Kp.dropT ?_ (.inl (by omega)) | refine Kp.put ?_ (.inl (by omega)) | refine Kp.new ?_ (by omega) | refine Kp.put ?_ (.inr (by omega)) | refine Kp.trans0 ?_ (by assumption) (by omega) | refine Kp.transS ?_ (by assumption) (by omega) (fun b hb hT => by first | omega | (dsimp only at hT ⊢; omega) | (simp only at hT ⊢; omega)))  (hs8.put (by omega)) (by omega)
end Go.Proofs.Ytgopmklcggoliaa
end
section
namespace Go.Proofs.Ytgopmklcggoliaa
open Go.RowKit
set_option linter.unusedSimpArgs false

def dlI (q : Tld → Bool) (us : List Tld) (j : Nat) : List Tld := us.take j ++ (us.drop j).filter q
theorem dlI_get {q : Tld → Bool} {us : List Tld} {j : Nat} {x : Tld} (h : us[j]? = some x) : (dlI q us (j + 1))[j]? = some x := by
  have hj := (List.getElem?_eq_some_iff.1 h).1
  unfold dlI
  rw [List.getElem?_append_left (by simp; omega), List.getElem?_take, if_pos (by omega), h]
theorem dlI_stay {q : Tld → Bool} {us : List Tld} {j : Nat} {x : Tld} (h : us[j]? = some x) (hq : q x = true) : dlI q us (j + 1) = dlI q us j := by
  obtain ⟨hj, rfl⟩ := List.getElem?_eq_some_iff.1 h
  unfold dlI
  rw [take_succ_get h, List.drop_eq_getElem_cons hj, List.filter_cons_of_pos hq, List.append_assoc]
  rfl
theorem dlI_gone {q : Tld → Bool} {us : List Tld} {j : Nat} {x : Tld} (h : us[j]? = some x) (hq : q x = false) : (dlI q us (j + 1)).take j ++ (dlI q us (j + 1)).drop (j + 1) = dlI q us j := by
  obtain ⟨hj, rfl⟩ := List.getElem?_eq_some_iff.1 h
  have hl1 : (us.take j).length = j := by simp; omega
  unfold dlI
  rw [take_succ_get h, List.drop_eq_getElem_cons hj, List.filter_cons_of_neg (by simp [hq]), List.append_assoc, List.take_append_of_le_length (by omega), List.take_of_length_le (by omega), ← List.append_assoc, List.drop_append_of_le_length (by simp; omega), List.drop_of_length_le (by simp; omega), List.nil_append]
theorem dlI_zero (q : Tld → Bool) (us : List Tld) : dlI q us 0 = us.filter q := by simp [dlI]
theorem dlI_all (q : Tld → Bool) (us : List Tld) : dlI q us us.length = us := by simp [dlI]
theorem dlI_len (q : Tld → Bool) (us : List Tld) (j : Nat) : (dlI q us j).length ≤ us.length := by
  unfold dlI
  have := List.length_filter_le q (us.drop j)
  simp only [List.length_append, List.length_take, List.length_drop] at this ⊢
  omega

structure DlI (nx0 : Nat) (H0 : AH) (q4 q6 : Nat) (tail : Int → Env) (now : Int) (q : Tld → Bool) (us : List Tld) (ownu : Nat) (m : Nat) (env : Env) (H : AH) (nx j : Nat) (s : Value) (own1 : Nat) : Prop where
  hm : m = j
  hj : j ≤ us.length
  henv : env = (4, .pointer (some ⟨q4, 0, none⟩)) :: (6, .pointer (some ⟨q6, 0, none⟩)) :: tail ((j : Int) - 1)
  hx : nx0 ≤ nx
  hkp : Kp (fun b => b = q4) nx0 H0 H
  c40 : H.c q4 0 = some s
  c41 : H.c q4 1 = some (.int .u64 now)
  hs : SlA nx H 7 s (dlI q us j).length (tdCells (dlI q us j)) own1
  ho : own1 = ownu ∨ own1 = 0 ∨ nx0 < own1

set_option maxRecDepth 20000 in
set_option maxHeartbeats 4000000 in
theorem do_drop {lo : Nat} {p : Nat} {ts us : List Tld} {own ownu n : Nat} {H : AH} {nx : Nat} {s : Value} {now : Int} (hR : RouA lo nx H p ts own) (hs : SlA nx H 7 s us.length (tdCells us) ownu) (hou : ownu = 0 ∨ (lo < ownu ∧ ownu ≠ own ∧ ownu ≠ p + 1)) (hT : TSt n ts us now) (hn : n ≤ 100)
    (k b0 pp sq mt : Int) (k0 : 0 ≤ k) (b00 : 0 ≤ b0) (p0 : 0 ≤ pp) (p1 : pp ≤ 255) (hk : k % 11 = 7) :
    ACalls Try.prog lo 9 #[.pointer (some ⟨p, 0, none⟩), .agg #[s, .int .u64 now], .agg #[.int .u8 k, .int .u8 b0, .int .u8 pp, .int .u8 sq, .int .u16 mt]] H nx (fun v H' nx' => nx ≤ nx' ∧ Kp (fun b => b = p ∨ b + 1 = own) nx H H' ∧ ∃ s' ts' us' own' ownu' now', DoR lo nx p own ownu n v H' nx' s' ts' us' own' ownu' now') := by
  refine ACalls.withLo fun hlo => ?_
  refine acalls_of_awp L9 Try.func9 rfl (by kernel_rfl) ?_
  obtain ⟨sa, sc, rfl⟩ := hs.form
  have hlt := hR.lt
  have hge := hR.ge
  have hne := hR.ne
  have hle := hs.le
  have hleo := hR.q.choose_spec.2.le
  have hgeo := hR.ow
  have hlen := hT.len
  have hlenu := hT.lenu
  simp (disch := omega) only [go_sem, ↓reduceIte ]
  intro q4 h4
  simp (disch := omega) only [go_sem, ↓reduceIte ]
  intro q5 h5
  simp (disch := omega) only [go_sem, ↓reduceIte ]
  intro q6 h6
  simp (disch := omega) only [go_sem, ↓reduceIte ]
  refine (pfx_c pp p0 p1 _ _).mono fun v H1 nx1 _ ⟨hv, hx1, hk1⟩ => ?_
  subst hv
  have hc1 := hk1.cell0
  simp (disch := omega) only [go_sem, ↓reduceIte ]
  intro q9 h9
  simp (disch := omega) only [go_sem, ↓reduceIte , hc1]
  have hk2 : Kp (fun _ => False) nx H ((((H1.new q9 #[.int .u32 0, .int .u8 0] 39).put q9 0 (.int .u32 (pfxA pp))).put q9 1 (.int .u8 (pfxN pp)))) := (by repeat first | exact Kp.refl _ _ _ | refine Kp.dropT ?_ (.inl (by omega)) | refine Kp.put ?_ (.inl (by omega)) | refine Kp.new ?_ (by omega) | refine Kp.put ?_ (.inr (by omega)) | refine Kp.trans0 ?_ (by assumption) (by omega) | refine Kp.transS ?_ (by assumption) (by omega) (fun b hb hT => by first | omega | (dsimp only at hT ⊢; omega) | (simp only at hT ⊢; omega))) 
  have hR2 : RouA lo (q9 + 1) _ p ts own := hR.kp (S := fun _ => False) hk2 (by omega) (by simp) (by simp)
  have hs2 : SlA (q9 + 1) _ 7 (.slice sa us.length sc) us.length (tdCells us) ownu := hs.kp (S := fun _ => False) hk2 (by omega) (by simp)
  refine (rdrop_c hR2 (by omega) (b0 % 8)).mono fun v H3 nx3 _ ⟨hv, hx3, hk3, hR3⟩ => ?_
  subst hv
  have hc3 := hk3.cell
  have hs3 : SlA nx3 H3 7 (.slice sa us.length sc) us.length (tdCells us) ownu := hs2.kp hk3 hx3 (by omega)
  have hk03 : Kp (fun b => b = p ∨ b + 1 = own) nx H H3 := (by repeat first | exact Kp.refl _ _ _ | refine Kp.dropT ?_ (.inl (by omega)) | refine Kp.put ?_ (.inl (by omega)) | refine Kp.new ?_ (by omega) | refine Kp.put ?_ (.inr (by omega)) | refine Kp.trans0 ?_ (by assumption) (by omega) | refine Kp.transS ?_ (by assumption) (by omega) (fun b hb hT => by first | omega | (dsimp only at hT ⊢; omega) | (simp only at hT ⊢; omega))) 
  have e40 : H3.c q4 0 = some (.slice sa us.length sc) := by simp (disch := omega) only [go_sem, ↓reduceIte , hc3, hc1]
  have e41 : H3.c q4 1 = some (.int .u64 now) := by simp (disch := omega) only [go_sem, ↓reduceIte , hc3, hc1]
  have e60 : H3.c q6 0 = some (.slice none 0 0) := by simp (disch := omega) only [go_sem, ↓reduceIte , hc3, hc1]
  have e61 : H3.c q6 1 = some (.int .u64 0) := by simp (disch := omega) only [go_sem, ↓reduceIte , hc3, hc1]
  simp (disch := omega) only [go_sem, ↓reduceIte , e40]
  refine awp_loop (fun m env H4 nx4 => ∃ j s1 own1, DlI nx3 H3 q4 q6 (fun i => [(8, .int .i64 (b0 % 8)), (13, .int .i64 i)]) now (fun t => !decide (t.who = b0 % 8)) us ownu m env H4 nx4 j s1 own1) us.length ⟨us.length, .slice sa us.length sc, ownu, ⟨rfl, Nat.le_refl _, rfl, Nat.le_refl _, Kp.refl _ _ _, e40, e41, by rw [dlI_all]; exact hs3, .inl rfl⟩⟩ (fun m env H4 nx4 ⟨j, s1, own1, hI⟩ hn4 => ?_)
  obtain ⟨hm, hj, henv, hx4, hk4, c40, c41, hs4, ho4⟩ := hI
  subst henv
  have hc4 := hk4.cell
  have hdl := dlI_len (fun t => !decide (t.who = b0 % 8)) us j
  obtain ⟨za, zc, rfl⟩ := hs4.form
  by_cases hj0 : j = 0
  · subst hj0
    rw [dlI_zero] at hs4 c40
    have hle4 := hs4.le
    have hle3 := hR3.q.choose_spec.2.le
    simp (disch := omega) only [go_sem, ↓reduceIte , c40, c41, hc4, e60, e61]
    refine ⟨by omega, (by repeat first | exact Kp.refl _ _ _ | refine Kp.dropT ?_ (.inl (by omega)) | refine Kp.put ?_ (.inl (by omega)) | refine Kp.new ?_ (by omega) | refine Kp.put ?_ (.inr (by omega)) | refine Kp.trans0 ?_ (by assumption) (by omega) | refine Kp.transS ?_ (by assumption) (by omega) (fun b hb hT => by first | omega | (dsimp only at hT ⊢; omega) | (simp only at hT ⊢; omega))) , _, _, _, own, own1, now, ⟨rfl, hR3.kp (S := fun b => b = q4 ∨ b = q6) (nx' := nx4) (by repeat first | exact Kp.refl _ _ _ | refine Kp.dropT ?_ (.inl (by omega)) | refine Kp.put ?_ (.inl (by omega)) | refine Kp.new ?_ (by omega) | refine Kp.put ?_ (.inr (by omega)) | refine Kp.trans0 ?_ (by assumption) (by omega) | refine Kp.transS ?_ (by assumption) (by omega) (fun b hb hT => by first | omega | (dsimp only at hT ⊢; omega) | (simp only at hT ⊢; omega)))  (by omega) (by omega) (by intro b hb; omega), (hs4.put (by omega)).put (by omega), .inl rfl, by omega, by omega, hT.filter _⟩⟩
  · obtain ⟨i, rfl⟩ : ∃ i, j = i + 1 := ⟨j - 1, by omega⟩
    obtain ⟨x, hx0⟩ : ∃ x, us[i]? = some x := ⟨_, List.getElem?_eq_getElem (by omega)⟩
    have hgx := dlI_get (q := fun t => !decide (t.who = b0 % 8)) hx0
    have hil := (List.getElem?_eq_some_iff.1 hgx).1
    obtain ⟨g, off, cp, hv, hg⟩ := hs4.open (by omega)
    cases hv
    have x2 := td_cells hs4 hgx 2 (by omega)
    simp only [Tld.cells, List.getElem?_cons_zero, List.getElem?_cons_succ] at x2
    rw [show ((i + 1 : Nat) : Int) - 1 = (i : Int) by omega]
    by_cases hw : x.who = b0 % 8
    · simp (disch := omega) only [go_sem, ↓reduceIte , c40, c41, x2, hw]
      refine (twithout_c hs4 (by omega) now i hil).mono fun v H5 nx5 _ ⟨hx5, hk5, s5, own5, hv, hs5, ho5⟩ => ?_
      subst hv
      have hone5 := hs5.one
      have hc5 := hk5.cell0
      rw [dlI_gone hx0 (by simp [hw])] at hs5
      have hle5 := hs5.le
      simp (disch := omega) only [go_sem, ↓reduceIte , hone5, c40, c41, hc5]
      exact ⟨i, by omega, i, s5, own5, ⟨rfl, by omega, rfl, by omega, (by repeat first | exact Kp.refl _ _ _ | refine Kp.dropT ?_ (.inl (by omega)) | refine Kp.put ?_ (.inl (by omega)) | refine Kp.new ?_ (by omega) | refine Kp.put ?_ (.inr (by omega)) | refine Kp.trans0 ?_ (by assumption) (by omega) | refine Kp.transS ?_ (by assumption) (by omega) (fun b hb hT => by first | omega | (dsimp only at hT ⊢; omega) | (simp only at hT ⊢; omega))) , by simp (disch := omega) only [go_sem, ↓reduceIte ], by simp (disch := omega) only [go_sem, ↓reduceIte ], (hs5.put (by omega)).put (by omega), by omega⟩⟩
    · simp (disch := omega) only [go_sem, ↓reduceIte , c40, c41, x2, hw]
      rw [dlI_stay hx0 (by simp [hw])] at hs4 c40
      exact ⟨i, by omega, i, _, own1, ⟨rfl, by omega, rfl, by omega, hk4, c40, c41, hs4, ho4⟩⟩
end Go.Proofs.Ytgopmklcggoliaa
end
section
namespace Go.Proofs.Ytgopmklcggoliaa
open Go.RowKit
set_option linter.unusedSimpArgs false

theorem TSt.tick {n : Nat} {ts us : List Tld} {now : Int} (h : TSt n ts us now) {d : Int} (h0 : 0 ≤ d) (h1 : d ≤ 40) {q : Tld → Bool} : TSt (n + 1) (ts.filter q) (us.filter q) (now + d) :=
  ⟨h.perm.filter q, h.uq.filter q, fun t ht => h.ok t (List.mem_filter.1 ht).1, Nat.le_trans (List.length_filter_le _ _) (by have := h.len; omega), by have := h.now0; omega, by have := h.now1; omega, fun t ht => h.more t (List.mem_filter.1 ht).1, fun t ht => h.far t (List.mem_filter.1 ht).1⟩

set_option maxRecDepth 20000 in
set_option maxHeartbeats 4000000 in
theorem do_tick {lo : Nat} {p : Nat} {ts us : List Tld} {own ownu n : Nat} {H : AH} {nx : Nat} {s : Value} {now : Int} (hR : RouA lo nx H p ts own) (hs : SlA nx H 7 s us.length (tdCells us) ownu) (hou : ownu = 0 ∨ (lo < ownu ∧ ownu ≠ own ∧ ownu ≠ p + 1)) (hT : TSt n ts us now) (hn : n ≤ 100)
    (k b0 pp sq mt : Int) (k0 : 0 ≤ k) (b00 : 0 ≤ b0) (p0 : 0 ≤ pp) (p1 : pp ≤ 255) (s0 : 0 ≤ sq) (hk : 7 < k % 11) :
    ACalls Try.prog lo 9 #[.pointer (some ⟨p, 0, none⟩), .agg #[s, .int .u64 now], .agg #[.int .u8 k, .int .u8 b0, .int .u8 pp, .int .u8 sq, .int .u16 mt]] H nx (fun v H' nx' => nx ≤ nx' ∧ Kp (fun b => b = p ∨ b + 1 = own) nx H H' ∧ ∃ s' ts' us' own' ownu' now', DoR lo nx p own ownu n v H' nx' s' ts' us' own' ownu' now') := by
  refine ACalls.withLo fun hlo => ?_
  refine acalls_of_awp L9 Try.func9 rfl (by kernel_rfl) ?_
  obtain ⟨sa, sc, rfl⟩ := hs.form
  have hlt := hR.lt
  have hge := hR.ge
  have hne := hR.ne
  have hle := hs.le
  have hleo := hR.q.choose_spec.2.le
  have hgeo := hR.ow
  have hlen := hT.len
  have hlenu := hT.lenu
  have hnow0 := hT.now0
  have hnow1 := hT.now1
  simp (disch := omega) only [go_sem, ↓reduceIte ]
  intro q4 h4
  simp (disch := omega) only [go_sem, ↓reduceIte ]
  intro q5 h5
  simp (disch := omega) only [go_sem, ↓reduceIte ]
  intro q6 h6
  simp (disch := omega) only [go_sem, ↓reduceIte ]
  refine (pfx_c pp p0 p1 _ _).mono fun v H1 nx1 _ ⟨hv, hx1, hk1⟩ => ?_
  subst hv
  have hc1 := hk1.cell0
  simp (disch := omega) only [go_sem, ↓reduceIte ]
  intro q9 h9
  simp (disch := omega) only [go_sem, ↓reduceIte , hc1]
  have hk2 : Kp (fun _ => False) nx H (((((H1.new q9 #[.int .u32 0, .int .u8 0] 39).put q9 0 (.int .u32 (pfxA pp))).put q9 1 (.int .u8 (pfxN pp)))).put q4 1 (.int .u64 (now + sq % 40))) := (by repeat first | exact Kp.refl _ _ _ | refine Kp.dropT ?_ (.inl (by omega)) | refine Kp.put ?_ (.inl (by omega)) | refine Kp.new ?_ (by omega) | refine Kp.put ?_ (.inr (by omega)) | refine Kp.trans0 ?_ (by assumption) (by omega) | refine Kp.transS ?_ (by assumption) (by omega) (fun b hb hT => by first | omega | (dsimp only at hT ⊢; omega) | (simp only at hT ⊢; omega))) 
  have hR2 : RouA lo (q9 + 1) _ p ts own := hR.kp (S := fun _ => False) hk2 (by omega) (by simp) (by simp)
  have hs2 : SlA (q9 + 1) _ 7 (.slice sa us.length sc) us.length (tdCells us) ownu := hs.kp (S := fun _ => False) hk2 (by omega) (by simp)
  refine (rtick_c hR2 (by omega) (now + sq % 40)).mono fun v H3 nx3 _ ⟨hv, hx3, hk3, hR3⟩ => ?_
  subst hv
  have hc3 := hk3.cell
  have hs3 : SlA nx3 H3 7 (.slice sa us.length sc) us.length (tdCells us) ownu := hs2.kp hk3 hx3 (by omega)
  have hk03 : Kp (fun b => b = p ∨ b + 1 = own) nx H H3 := (by repeat first | exact Kp.refl _ _ _ | refine Kp.dropT ?_ (.inl (by omega)) | refine Kp.put ?_ (.inl (by omega)) | refine Kp.new ?_ (by omega) | refine Kp.put ?_ (.inr (by omega)) | refine Kp.trans0 ?_ (by assumption) (by omega) | refine Kp.transS ?_ (by assumption) (by omega) (fun b hb hT => by first | omega | (dsimp only at hT ⊢; omega) | (simp only at hT ⊢; omega))) 
  have e40 : H3.c q4 0 = some (.slice sa us.length sc) := by simp (disch := omega) only [go_sem, ↓reduceIte , hc3, hc1]
  have e41 : H3.c q4 1 = some (.int .u64 (now + sq % 40)) := by simp (disch := omega) only [go_sem, ↓reduceIte , hc3, hc1]
  have e60 : H3.c q6 0 = some (.slice none 0 0) := by simp (disch := omega) only [go_sem, ↓reduceIte , hc3, hc1]
  have e61 : H3.c q6 1 = some (.int .u64 0) := by simp (disch := omega) only [go_sem, ↓reduceIte , hc3, hc1]
  simp (disch := omega) only [go_sem, ↓reduceIte , e40]
  refine awp_loop (fun m env H4 nx4 => ∃ j s1 own1, DlI nx3 H3 q4 q6 (fun i => [(14, .int .i64 i)]) (now + sq % 40) (fun t => !decide (t.til ≤ now + sq % 40)) us ownu m env H4 nx4 j s1 own1) us.length ⟨us.length, .slice sa us.length sc, ownu, ⟨rfl, Nat.le_refl _, rfl, Nat.le_refl _, Kp.refl _ _ _, e40, e41, by rw [dlI_all]; exact hs3, .inl rfl⟩⟩ (fun m env H4 nx4 ⟨j, s1, own1, hI⟩ hn4 => ?_)
  obtain ⟨hm, hj, henv, hx4, hk4, c40, c41, hs4, ho4⟩ := hI
  subst henv
  have hc4 := hk4.cell
  have hdl := dlI_len (fun t => !decide (t.til ≤ now + sq % 40)) us j
  obtain ⟨za, zc, rfl⟩ := hs4.form
  by_cases hj0 : j = 0
  · subst hj0
    rw [dlI_zero] at hs4 c40
    have hle4 := hs4.le
    have hle3 := hR3.q.choose_spec.2.le
    simp (disch := omega) only [go_sem, ↓reduceIte , c40, c41, hc4, e60, e61]
    refine ⟨by omega, (by repeat first | exact Kp.refl _ _ _ | refine Kp.dropT ?_ (.inl (by omega)) | refine Kp.put ?_ (.inl (by omega)) | refine Kp.new ?_ (by omega) | refine Kp.put ?_ (.inr (by omega)) | refine Kp.trans0 ?_ (by assumption) (by omega) | refine Kp.transS ?_ (by assumption) (by omega) (fun b hb hT => by first | omega | (dsimp only at hT ⊢; omega) | (simp only at hT ⊢; omega))) , _, _, _, own, own1, now + sq % 40, ⟨rfl, hR3.kp (S := fun b => b = q4 ∨ b = q6) (nx' := nx4) (by repeat first | exact Kp.refl _ _ _ | refine Kp.dropT ?_ (.inl (by omega)) | refine Kp.put ?_ (.inl (by omega)) | refine Kp.new ?_ (by omega) | refine Kp.put ?_ (.inr (by omega)) | refine Kp.trans0 ?_ (by assumption) (by omega) | refine Kp.transS ?_ (by assumption) (by omega) (fun b hb hT => by first | omega | (dsimp only at hT ⊢; omega) | (simp only at hT ⊢; omega)))  (by omega) (by omega) (by intro b hb; omega), (hs4.put (by omega)).put (by omega), .inl rfl, by omega, by omega, hT.tick (by omega) (by omega)⟩⟩
  · obtain ⟨i, rfl⟩ : ∃ i, j = i + 1 := ⟨j - 1, by omega⟩
    obtain ⟨x, hx0⟩ : ∃ x, us[i]? = some x := ⟨_, List.getElem?_eq_getElem (by omega)⟩
    have hgx := dlI_get (q := fun t => !decide (t.til ≤ now + sq % 40)) hx0
    have hil := (List.getElem?_eq_some_iff.1 hgx).1
    obtain ⟨g, off, cp, hv, hg⟩ := hs4.open (by omega)
    cases hv
    have x2 := td_cells hs4 hgx 6 (by omega)
    simp only [Tld.cells, List.getElem?_cons_zero, List.getElem?_cons_succ] at x2
    rw [show ((i + 1 : Nat) : Int) - 1 = (i : Int) by omega]
    by_cases hw : x.til ≤ now + sq % 40
    · simp (disch := omega) only [go_sem, ↓reduceIte ]
      refine awp_draw ord9x9 (by kernel_rfl) ?_
      simp (disch := omega) only [go_sem, ↓reduceIte , ord9x9, c40, c41, x2, hw]
      refine (twithout_c hs4 (by omega) (now + sq % 40) i hil).mono fun v H5 nx5 _ ⟨hx5, hk5, s5, own5, hv, hs5, ho5⟩ => ?_
      subst hv
      have hone5 := hs5.one
      have hc5 := hk5.cell0
      rw [dlI_gone hx0 (by simp [hw])] at hs5
      have hle5 := hs5.le
      simp (disch := omega) only [go_sem, ↓reduceIte , hone5, c40, c41, hc5]
      exact ⟨i, by omega, i, s5, own5, ⟨rfl, by omega, rfl, by omega, (by repeat first | exact Kp.refl _ _ _ | refine Kp.dropT ?_ (.inl (by omega)) | refine Kp.put ?_ (.inl (by omega)) | refine Kp.new ?_ (by omega) | refine Kp.put ?_ (.inr (by omega)) | refine Kp.trans0 ?_ (by assumption) (by omega) | refine Kp.transS ?_ (by assumption) (by omega) (fun b hb hT => by first | omega | (dsimp only at hT ⊢; omega) | (simp only at hT ⊢; omega))) , by simp (disch := omega) only [go_sem, ↓reduceIte ], by simp (disch := omega) only [go_sem, ↓reduceIte ], (hs5.put (by omega)).put (by omega), by omega⟩⟩
    · simp (disch := omega) only [go_sem, ↓reduceIte ]
      refine awp_draw ord9x9 (by kernel_rfl) ?_
      simp (disch := omega) only [go_sem, ↓reduceIte , ord9x9, c40, c41, x2, hw]
      rw [dlI_stay hx0 (by simp [hw])] at hs4 c40
      exact ⟨i, by omega, i, _, own1, ⟨rfl, by omega, rfl, by omega, hk4, c40, c41, hs4, ho4⟩⟩

theorem do_c {lo : Nat} {p : Nat} {ts us : List Tld} {own ownu n : Nat} {H : AH} {nx : Nat} {s : Value} {now : Int} (hR : RouA lo nx H p ts own) (hs : SlA nx H 7 s us.length (tdCells us) ownu) (hou : ownu = 0 ∨ (lo < ownu ∧ ownu ≠ own ∧ ownu ≠ p + 1)) (hT : TSt n ts us now) (hn : n ≤ 100)
    (k b0 pp sq mt : Int) (k0 : 0 ≤ k) (b00 : 0 ≤ b0) (p0 : 0 ≤ pp) (p1 : pp ≤ 255) (s0 : 0 ≤ sq) (s1 : sq ≤ 255) (m0 : 0 ≤ mt) (m1 : mt ≤ 65535) :
    ACalls Try.prog lo 9 #[.pointer (some ⟨p, 0, none⟩), .agg #[s, .int .u64 now], .agg #[.int .u8 k, .int .u8 b0, .int .u8 pp, .int .u8 sq, .int .u16 mt]] H nx (fun v H' nx' => nx ≤ nx' ∧ Kp (fun b => b = p ∨ b + 1 = own) nx H H' ∧ ∃ s' ts' us' own' ownu' now', DoR lo nx p own ownu n v H' nx' s' ts' us' own' ownu' now') := by
  rcases (by omega : k % 11 < 7 ∨ k % 11 = 7 ∨ 7 < k % 11) with h | h | h
  · exact do_tell hR hs hou hT hn k b0 pp sq mt k0 b00 p0 p1 s0 s1 m0 m1 h
  · exact do_drop hR hs hou hT hn k b0 pp sq mt k0 b00 p0 p1 h
  · exact do_tick hR hs hou hT hn k b0 pp sq mt k0 b00 p0 p1 s0 h
end Go.Proofs.Ytgopmklcggoliaa
end
