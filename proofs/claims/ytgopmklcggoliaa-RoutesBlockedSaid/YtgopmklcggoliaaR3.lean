/- Routes, in our own logic: Tell (a way is told). -/
import Derived.Test.YtgopmklcggoliaaR2
import Derived.Test.YtgopmklcggoliaaL17
namespace Go.Proofs.Ytgopmklcggoliaa
open Go.RowKit
set_option linter.unusedSimpArgs false

theorem idxR_at {pred : Tld → Bool} {ts : List Tld} {v : Value} (h : idxR pred ts v) {i : Nat} {t : Tld} (hi : ts[i]? = some t) (ht : pred t = true) (hf : ∀ j t', j < i → ts[j]? = some t' → pred t' = false) : v = .int .i64 i := by
  rcases h with ⟨k, t', hk, ht', rfl, hfk⟩ | ⟨hn, rfl⟩
  · rcases Nat.lt_trichotomy i k with hlt | rfl | hlt
    · have := hfk i t hlt hi; rw [ht] at this; cases this
    · rfl
    · have := hf k t' hlt hk; rw [ht'] at this; cases this
  · have := hn t (List.mem_of_getElem? hi); rw [ht] at this; cases this
theorem idxR_none {pred : Tld → Bool} {ts : List Tld} {v : Value} (h : idxR pred ts v) (hn : ∀ t ∈ ts, pred t = false) : v = .int .i64 (-1) := by
  rcases h with ⟨k, t', hk, ht', rfl, hfk⟩ | ⟨_, rfl⟩
  · have := hn t' (List.mem_of_getElem? hk); rw [ht'] at this; cases this
  · rfl

theorem tell_set {lo : Nat} {p : Nat} {ts : List Tld} {own : Nat} {H : AH} {nx : Nat} (hR : RouA lo nx H p ts own) (x : Tld) (now : Int) (b0 : 0 ≤ x.who) (b1 : x.who < 16) (n0 : 0 ≤ x.node) (n1 : x.node < 16) (hpx : pxRightC x.addr x.len = true) (l0 : 0 ≤ x.len)
    (w0 : 0 ≤ now) (w1 : now ≤ 1000000) (ht : x.til = now + 50) (hm : x.metric ≠ 65535) (hl : ts.length ≤ 256) {i : Nat} {t0 : Tld} (hi : ts[i]? = some t0) (hit : hitC x.addr x.len x.who t0 = true) (hfst : ∀ j t', j < i → ts[j]? = some t' → hitC x.addr x.len x.who t' = false) :
    ACalls Try.prog lo 25 #[.pointer (some ⟨p, 0, none⟩), .int .i64 x.who, .agg #[.int .u32 x.addr, .int .u8 x.len], .int .i64 x.node, .agg #[.int .u16 x.seq, .int .u16 x.metric], .int .u64 now] H nx (fun v H' nx' => v = .int .i64 0 ∧ nx ≤ nx' ∧ Kp (fun b => b = p ∨ b + 1 = own) nx H H' ∧ RouA lo nx' H' p (ts.set i x) own) := by
  refine ACalls.withLo fun hlo => ?_
  refine acalls_of_awp L25 Try.func25 rfl (by kernel_rfl) ?_
  have hge := hR.ge
  have hlt := hR.lt
  have hne := hR.ne
  have hil : i < ts.length := (List.getElem?_eq_some_iff.1 hi).1
  simp (disch := omega) only [go_sem, ↓reduceIte ]
  intro tp htp
  simp (disch := omega) only [go_sem, ↓reduceIte ]
  intro tm htm
  simp (disch := omega) only [go_sem, ↓reduceIte ]
  refine (pxRight_c _ _ l0 _ _).mono fun v H1 nx1 _ ⟨hv, hx1, hk1⟩ => ?_
  subst hv
  have hc1 := hk1.cell0
  have hR1 : RouA lo nx1 H1 p ts own := hR.kp (S := fun _ => False) (by repeat first | exact Kp.refl _ _ _ | refine Kp.dropT ?_ (.inl (by omega)) | refine Kp.put ?_ (.inl (by omega)) | refine Kp.new ?_ (by omega) | refine Kp.put ?_ (.inr (by omega)) | refine Kp.trans0 ?_ (by assumption) (by omega) | refine Kp.transS ?_ (by assumption) (by omega) (fun b hb hT => by first | omega | (dsimp only at hT ⊢; omega) | (simp only at hT ⊢; omega)))  (by omega) (by simp) (by simp)
  simp (disch := omega) only [go_sem, ↓reduceIte , hpx, hc1]
  refine (rfind_c hR1 x.addr x.len x.who).mono fun v H2 nx2 _ ⟨hv, hx2, hk2⟩ => ?_
  have := idxR_at hv hi hit hfst
  subst this
  have hc2 := hk2.cell0
  have hR2 : RouA lo nx2 H2 p ts own := hR1.kp (S := fun _ => False) hk2 hx2 (by simp) (by simp)
  simp (disch := omega) only [go_sem, ↓reduceIte , hc2, hc1]
  intro tt htt
  obtain ⟨ge2, lt2, ⟨v, hq, hs⟩, ow2, ne2⟩ := hR2
  obtain ⟨g, off, cp, rfl, hg⟩ := hs.open (by omega)
  have hgl := hs.le
  have hcs := hs.cells.2.2.2.2
  have hcp := hs.cells.2.2.1
  have e0 := hcs (i * 7) (by omega)
  have e1 : (H2.c g (off + i * 7 + 1)).isSome = true := by
    have := hcs (i * 7 + 1) (by omega)
    rwa [show off + (i * 7 + 1) = off + i * 7 + 1 by omega] at this
  have e2 : (H2.c g (off + i * 7 + 1 + 1)).isSome = true := by
    have := hcs (i * 7 + 2) (by omega)
    rwa [show off + (i * 7 + 2) = off + i * 7 + 1 + 1 by omega] at this
  have e3 : (H2.c g (off + i * 7 + 1 + 1 + 1)).isSome = true := by
    have := hcs (i * 7 + 3) (by omega)
    rwa [show off + (i * 7 + 3) = off + i * 7 + 1 + 1 + 1 by omega] at this
  have e4 : (H2.c g (off + i * 7 + 1 + 1 + 1 + 1)).isSome = true := by
    have := hcs (i * 7 + 4) (by omega)
    rwa [show off + (i * 7 + 4) = off + i * 7 + 1 + 1 + 1 + 1 by omega] at this
  have e5 : (H2.c g (off + i * 7 + 1 + 1 + 1 + 1 + 1)).isSome = true := by
    have := hcs (i * 7 + 5) (by omega)
    rwa [show off + (i * 7 + 5) = off + i * 7 + 1 + 1 + 1 + 1 + 1 by omega] at this
  have e6 : (H2.c g (off + i * 7 + 1 + 1 + 1 + 1 + 1 + 1)).isSome = true := by
    have := hcs (i * 7 + 6) (by omega)
    rwa [show off + (i * 7 + 6) = off + i * 7 + 1 + 1 + 1 + 1 + 1 + 1 by omega] at this
  simp (disch := omega) only [go_sem, ↓reduceIte , hc2, hc1, hm]
  refine awp_draw ord25x12 (by kernel_rfl) ?_
  simp (disch := omega) only [go_sem, ↓reduceIte , ord25x12, hq, hc2, hc1, e0, e1, e2, e3, e4, e5, e6]
  refine ⟨dkeep_last (by kernel_rfl), ?_⟩
  refine ⟨by omega, (by repeat first | exact Kp.refl _ _ _ | refine Kp.dropT ?_ (.inl (by omega)) | refine Kp.put ?_ (.inl (by omega)) | refine Kp.new ?_ (by omega) | refine Kp.put ?_ (.inr (by omega)) | refine Kp.trans0 ?_ (by assumption) (by omega) | refine Kp.transS ?_ (by assumption) (by omega) (fun b hb hT => by first | omega | (dsimp only at hT ⊢; omega) | (simp only at hT ⊢; omega))) , ⟨by omega, by omega, ⟨.slice (some ⟨g, off, none⟩) ts.length cp, by simp (disch := omega) only [go_sem, ↓reduceIte , hq], ?_⟩, ow2, ne2⟩⟩
  rw [List.length_set]
  have hs3 : SlA (tt + 1) _ 7 (.slice (some ⟨g, off, none⟩) ts.length cp) ts.length (tdCells ts) own := hs.kp (S := fun _ => False) (nx' := tt + 1) (H' := (((((((H2.new tt #[.int .u32 0, .int .u8 0, .int .i64 0, .int .i64 0, .int .u16 0, .int .u16 0, .int .u64 0] 43).put tt 0 (.int .u32 x.addr)).put tt 1 (.int .u8 x.len)).put tt (1 + 1) (.int .i64 x.who)).put tt (1 + 1 + 1) (.int .i64 x.node)).put tt (1 + 1 + 1 + 1) (.int .u16 x.seq)).put tt (1 + 1 + 1 + 1 + 1) (.int .u16 x.metric)).put tt (1 + 1 + 1 + 1 + 1 + 1) (.int .u64 (now + 50))) (by repeat first | exact Kp.refl _ _ _ | refine Kp.dropT ?_ (.inl (by omega)) | refine Kp.put ?_ (.inl (by omega)) | refine Kp.new ?_ (by omega) | refine Kp.put ?_ (.inr (by omega)) | refine Kp.trans0 ?_ (by assumption) (by omega) | refine Kp.transS ?_ (by assumption) (by omega) (fun b hb hT => by first | omega | (dsimp only at hT ⊢; omega) | (simp only at hT ⊢; omega)))  (by omega) (by simp)
  have h := hs3.setE td_seven hil x
  unfold Tld.cells at h
  rw [ht] at h
  exact h

set_option maxRecDepth 20000 in
theorem tell_add {lo : Nat} {p : Nat} {ts : List Tld} {own : Nat} {H : AH} {nx : Nat} (hR : RouA lo nx H p ts own) (x : Tld) (now : Int) (b0 : 0 ≤ x.who) (b1 : x.who < 16) (n0 : 0 ≤ x.node) (n1 : x.node < 16) (hpx : pxRightC x.addr x.len = true) (l0 : 0 ≤ x.len)
    (w0 : 0 ≤ now) (w1 : now ≤ 1000000) (ht : x.til = now + 50) (hm : x.metric ≠ 65535) (hl : ts.length < 256) (hn : ∀ t ∈ ts, hitC x.addr x.len x.who t = false) :
    ACalls Try.prog lo 25 #[.pointer (some ⟨p, 0, none⟩), .int .i64 x.who, .agg #[.int .u32 x.addr, .int .u8 x.len], .int .i64 x.node, .agg #[.int .u16 x.seq, .int .u16 x.metric], .int .u64 now] H nx (fun v H' nx' => v = .int .i64 0 ∧ nx ≤ nx' ∧ Kp (fun b => b = p ∨ b + 1 = own) nx H H' ∧ ∃ own', RouA lo nx' H' p (ts ++ [x]) own' ∧ (own' = own ∨ nx < own')) := by
  refine ACalls.withLo fun hlo => ?_
  refine acalls_of_awp L25 Try.func25 rfl (by kernel_rfl) ?_
  have hge := hR.ge
  have hlt := hR.lt
  have hne := hR.ne
  simp (disch := omega) only [go_sem, ↓reduceIte ]
  intro tp htp
  simp (disch := omega) only [go_sem, ↓reduceIte ]
  intro tm htm
  simp (disch := omega) only [go_sem, ↓reduceIte ]
  refine (pxRight_c _ _ l0 _ _).mono fun v H1 nx1 _ ⟨hv, hx1, hk1⟩ => ?_
  subst hv
  have hc1 := hk1.cell0
  have hR1 : RouA lo nx1 H1 p ts own := hR.kp (S := fun _ => False) (by repeat first | exact Kp.refl _ _ _ | refine Kp.dropT ?_ (.inl (by omega)) | refine Kp.put ?_ (.inl (by omega)) | refine Kp.new ?_ (by omega) | refine Kp.put ?_ (.inr (by omega)) | refine Kp.trans0 ?_ (by assumption) (by omega) | refine Kp.transS ?_ (by assumption) (by omega) (fun b hb hT => by first | omega | (dsimp only at hT ⊢; omega) | (simp only at hT ⊢; omega)))  (by omega) (by simp) (by simp)
  simp (disch := omega) only [go_sem, ↓reduceIte , hpx, hc1]
  refine (rfind_c hR1 x.addr x.len x.who).mono fun v H2 nx2 _ ⟨hv, hx2, hk2⟩ => ?_
  have := idxR_none hv hn
  subst this
  have hc2 := hk2.cell0
  have hR2 : RouA lo nx2 H2 p ts own := hR1.kp (S := fun _ => False) hk2 hx2 (by simp) (by simp)
  simp (disch := omega) only [go_sem, ↓reduceIte , hc2, hc1]
  intro tt htt
  obtain ⟨ge2, lt2, ⟨v, hq, hs⟩, ow2, ne2⟩ := hR2
  obtain ⟨a, cc, rfl⟩ := hs.form
  have hle := hs.le
  have hq1 := hq
  rw [hc2 _ _ (by omega), hc1 _ _ (by omega)] at hq1
  simp (disch := omega) only [go_sem, ↓reduceIte , hc2, hc1, hm, hq1]
  refine awp_draw ord25x7 (by kernel_rfl) ?_
  simp (disch := omega) only [go_sem, ↓reduceIte , ord25x7, hq1, hc2, hc1]
  have hs3 : SlA (tt + 1) _ 7 (.slice a ts.length cc) ts.length (tdCells ts) own := hs.kp (S := fun _ => False) (nx' := tt + 1) (H' := (((((((H2.new tt #[.int .u32 0, .int .u8 0, .int .i64 0, .int .i64 0, .int .u16 0, .int .u16 0, .int .u64 0] 43).put tt 0 (.int .u32 x.addr)).put tt 1 (.int .u8 x.len)).put tt (1 + 1) (.int .i64 x.who)).put tt (1 + 1 + 1) (.int .i64 x.node)).put tt (1 + 1 + 1 + 1) (.int .u16 x.seq)).put tt (1 + 1 + 1 + 1 + 1) (.int .u16 x.metric)).put tt (1 + 1 + 1 + 1 + 1 + 1) (.int .u64 (now + 50))) (by repeat first | exact Kp.refl _ _ _ | refine Kp.dropT ?_ (.inl (by omega)) | refine Kp.put ?_ (.inl (by omega)) | refine Kp.new ?_ (by omega) | refine Kp.put ?_ (.inr (by omega)) | refine Kp.trans0 ?_ (by assumption) (by omega) | refine Kp.transS ?_ (by assumption) (by omega) (fun b hb hT => by first | omega | (dsimp only at hT ⊢; omega) | (simp only at hT ⊢; omega)))  (by omega) (by simp)
  refine buildSQ_all (n := 1) [.agg #[.int .u32 x.addr, .int .u8 x.len, .int .i64 x.who, .int .i64 x.node, .int .u16 x.seq, .int .u16 x.metric, .int .u64 (now + 50)]] sl26 zero43 (by omega) (by omega) rfl (by simp [cells_agg]) fun d hd => ?_
  have hlit : SlA (d + 1) _ 7 (.slice (some ⟨d, 0, none⟩) 1 1) 1 (tdCells [x]) (d + 1) := SlA.ofNew (H := (((((((H2.new tt #[.int .u32 0, .int .u8 0, .int .i64 0, .int .i64 0, .int .u16 0, .int .u16 0, .int .u64 0] 43).put tt 0 (.int .u32 x.addr)).put tt 1 (.int .u8 x.len)).put tt (1 + 1) (.int .i64 x.who)).put tt (1 + 1 + 1) (.int .i64 x.node)).put tt (1 + 1 + 1 + 1) (.int .u16 x.seq)).put tt (1 + 1 + 1 + 1 + 1) (.int .u16 x.metric)).put tt (1 + 1 + 1 + 1 + 1 + 1) (.int .u64 (now + 50))) (e := 43) (cs := ([Value.agg #[.int .u32 x.addr, .int .u8 x.len, .int .i64 x.who, .int .i64 x.node, .int .u16 x.seq, .int .u16 x.metric, .int .u64 (now + 50)]].flatMap fun v => v.cells.toList).toArray) rfl (by omega) (by simp [maxLen]) (by simp [cells_agg]) (fun j _ => by simp [cells_agg, tdCells, Tld.cells, ht])
  have hs6 := hs3.new (vs := ([Value.agg #[.int .u32 x.addr, .int .u8 x.len, .int .i64 x.who, .int .i64 x.node, .int .u16 x.seq, .int .u16 x.metric, .int .u64 (now + 50)]].flatMap fun v => v.cells.toList).toArray) (e := 43) hd
  simp (disch := omega) only [go_sem, ↓reduceIte ]
  refine ⟨dkeep_kp (by repeat first | exact Kp.refl _ _ _ | refine Kp.dropT ?_ (.inl (by omega)) | refine Kp.put ?_ (.inl (by omega)) | refine Kp.new ?_ (by omega) | refine Kp.put ?_ (.inr (by omega)) | refine Kp.trans0 ?_ (by assumption) (by omega) | refine Kp.transS ?_ (by assumption) (by omega) (fun b hb hT => by first | omega | (dsimp only at hT ⊢; omega) | (simp only at hT ⊢; omega))) , ?_⟩
  refine appendQ_two (aw_append sl26 zero43 rfl by43 hs6 (hlit.src sl26 tdCells_one) (by simp only [maxLen]; omega) (by omega) ow2 fun v7 H7 nx7 own7 hn7 hs7 ho7 hk7 _ => ?_)
  have hone7 := hs7.one
  have hc7 := hk7.cell
  simp (disch := omega) only [go_sem, ↓reduceIte ]
  refine ⟨dkeep_last (by kernel_rfl), ?_⟩
  simp (disch := omega) only [go_sem, ↓reduceIte , hc7, hq, hone7, hc2, hc1, hq1]
  refine ⟨dkeep_last (by kernel_rfl), ?_⟩
  refine ⟨by omega, (by repeat first | exact Kp.refl _ _ _ | refine Kp.dropT ?_ (.inl (by omega)) | refine Kp.put ?_ (.inl (by omega)) | refine Kp.new ?_ (by omega) | refine Kp.put ?_ (.inr (by omega)) | refine Kp.trans0 ?_ (by assumption) (by omega) | refine Kp.transS ?_ (by assumption) (by omega) (fun b hb hT => by first | omega | (dsimp only at hT ⊢; omega) | (simp only at hT ⊢; omega))) , own7, ⟨by omega, by omega, ⟨v7, by simp (disch := omega) only [go_sem, ↓reduceIte ], ?_⟩, by omega, by omega⟩, by omega⟩
  rw [List.length_append, tdCells_append]
  exact hs7.put (by omega)
end Go.Proofs.Ytgopmklcggoliaa
