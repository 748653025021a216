/- Routes, in our own logic: slices.Delete; Tell that there is no way. -/
import Derived.Test.YtgopmklcggoliaaR3
namespace Go.Proofs.Ytgopmklcggoliaa
open Go.RowKit
set_option linter.unusedSimpArgs false

set_option maxRecDepth 20000 in
/-- One, or more, taken out of the middle. -/
theorem delTold_c {lo : Nat} {H : AH} {nx : Nat} {s : Value} {l : List Tld} {own : Nat} (hs : SlA nx H 7 s l.length (tdCells l) own) (hlo : own = 0 ∨ lo < own) (i j : Nat) (hij : i < j) (hj : j ≤ l.length) :
    ACalls Try.prog lo 43 #[s, .int .i64 i, .int .i64 j] H nx
      (fun v H' nx' => nx' = nx ∧ Kp (fun b => b + 1 = own) nx H H' ∧ SlA nx H' 7 v (l.take i ++ l.drop j).length (tdCells (l.take i ++ l.drop j)) own) := by
  refine acalls_of_awp L43 Try.func43 rfl (by kernel_rfl) ?_
  obtain ⟨g, off, cap, rfl, ho⟩ := hs.open (by omega)
  obtain ⟨hc, _, hcap, hmx, hsp⟩ := hs.cells
  simp only [maxLen] at hmx
  have hgl := hs.le
  simp (disch := omega) only [go_sem, ↓reduceIte , slice_lhm sl26]
  refine awp_draw ord43x5 (by kernel_rfl) ?_
  simp (disch := omega) only [go_sem, ↓reduceIte , ord43x5, slice_h sl26, slice_l sl26]
  have hcut := hs.cut (l := j) (h := l.length) (m := cap) hj (Nat.le_refl _) hcap (Nat.le_refl _)
  have hsrc : SrcA Try.prog H 7 26 _ (l.length - j) _ := hcut.src sl26 (fun v hv => tdCells_one v (List.mem_of_mem_drop (List.mem_of_mem_take hv)))
  have hless := hs.less (i := i) (by omega)
  have hnews : ((tdCells l).drop (j * 7)).take ((l.length - j) * 7) = tdCells (l.drop j) := by
    rw [show tdCells l = l.flatMap Tld.cells from rfl, flat_drop td_seven, List.take_of_length_le]
    · rfl
    · rw [flat_length td_seven, List.length_drop]; exact Nat.le_refl _
  rw [hnews] at hsrc
  rw [show tdCells l = l.flatMap Tld.cells from rfl, flat_take td_seven] at hless
  refine appendQ_two (aw_append_room sl26 hsrc (by omega) (by omega) (fun k hk => ?_) ?_)
  · have := hsp (i * 7 + k) (by omega)
    rwa [← Nat.add_assoc] at this
  have hroom := hless.room (m := l.length - j) hsrc.newsLen (by omega)
  rw [show (l.take i).flatMap Tld.cells = tdCells (l.take i) from rfl, ← tdCells_append] at hroom
  simp (disch := omega) only [go_sem, ↓reduceIte ]
  refine ⟨dkeep_last (by kernel_rfl), ?_⟩
  simp (disch := omega) only [go_sem, ↓reduceIte , slice_lh sl26]
  refine clearQ_one (aw_clear sl26 zero43 (by omega) (by omega) (zeroCells_one (by decide) (by kernel_rfl) _) (fun k hk => ?_) ?_)
  · have := hroom.cells.2.2.2.2 ((i + (l.length - j)) * 7 + k) (by simp only [size_zeroCells, cells_agg, List.size_toArray, List.length_cons, List.length_nil] at hk; omega)
    rwa [← Nat.add_assoc] at this
  have hend := hroom.beyond (o := off + (i + (l.length - j)) * 7) (vs := (Builtin.zeroCells (Value.agg #[.int .u32 0, .int .u8 0, .int .i64 0, .int .i64 0, .int .u16 0, .int .u16 0, .int .u64 0]).cells (l.length - (i + (l.length - j)))).toList) (Nat.le_refl _)
  simp (disch := omega) only [go_sem, ↓reduceIte ]
  refine ⟨Kp.puts (.inr (by omega)) _ _ _ (Kp.puts (.inr (by omega)) _ _ _ (Kp.refl _ _ _)), ?_⟩
  rw [show (l.take i ++ l.drop j).length = i + (l.length - j) by simp; omega]
  exact hend

set_option maxRecDepth 20000 in
theorem tell_gone {lo : Nat} {p : Nat} {ts : List Tld} {own : Nat} {H : AH} {nx : Nat} (hR : RouA lo nx H p ts own) (x : Tld) (now : Int) (b0 : 0 ≤ x.who) (b1 : x.who < 16) (n0 : 0 ≤ x.node) (n1 : x.node < 16) (hpx : pxRightC x.addr x.len = true) (l0 : 0 ≤ x.len)
    (w0 : 0 ≤ now) (w1 : now ≤ 1000000) (hm : x.metric = 65535) (hl : ts.length ≤ 256) {i : Nat} {t0 : Tld} (hi : ts[i]? = some t0) (hit : hitC x.addr x.len x.who t0 = true) (hfst : ∀ j t', j < i → ts[j]? = some t' → hitC x.addr x.len x.who t' = false) :
    ACalls Try.prog lo 25 #[.pointer (some ⟨p, 0, none⟩), .int .i64 x.who, .agg #[.int .u32 x.addr, .int .u8 x.len], .int .i64 x.node, .agg #[.int .u16 x.seq, .int .u16 x.metric], .int .u64 now] H nx (fun v H' nx' => v = .int .i64 0 ∧ nx ≤ nx' ∧ Kp (fun b => b = p ∨ b + 1 = own) nx H H' ∧ RouA lo nx' H' p (ts.take i ++ ts.drop (i + 1)) own) := by
  refine ACalls.withLo fun hlo => ?_
  refine acalls_of_awp L25 Try.func25 rfl (by kernel_rfl) ?_
  have hge := hR.ge
  have hlt := hR.lt
  have hne := hR.ne
  have hil : i < ts.length := (List.getElem?_eq_some_iff.1 hi).1
  simp (disch := omega) only [go_sem, ↓reduceIte ]
  intro tp htp
  simp (disch := omega) only [go_sem, ↓reduceIte ]
  intro tm htm
  simp (disch := omega) only [go_sem, ↓reduceIte ]
  refine (pxRight_c _ _ l0 _ _).mono fun v H1 nx1 _ ⟨hv, hx1, hk1⟩ => ?_
  subst hv
  have hc1 := hk1.cell0
  have hR1 : RouA lo nx1 H1 p ts own := hR.kp (S := fun _ => False) (by repeat first | exact Kp.refl _ _ _ | refine Kp.dropT ?_ (.inl (by omega)) | refine Kp.put ?_ (.inl (by omega)) | refine Kp.new ?_ (by omega) | refine Kp.put ?_ (.inr (by omega)) | refine Kp.trans0 ?_ (by assumption) (by omega) | refine Kp.transS ?_ (by assumption) (by omega) (fun b hb hT => by first | omega | (dsimp only at hT ⊢; omega) | (simp only at hT ⊢; omega)))  (by omega) (by simp) (by simp)
  simp (disch := omega) only [go_sem, ↓reduceIte , hpx, hc1]
  refine (rfind_c hR1 x.addr x.len x.who).mono fun v H2 nx2 _ ⟨hv, hx2, hk2⟩ => ?_
  have := idxR_at hv hi hit hfst
  subst this
  have hc2 := hk2.cell0
  have hR2 : RouA lo nx2 H2 p ts own := hR1.kp (S := fun _ => False) hk2 hx2 (by simp) (by simp)
  simp (disch := omega) only [go_sem, ↓reduceIte , hc2, hc1]
  intro tt htt
  obtain ⟨ge2, lt2, ⟨v, hq, hs⟩, ow2, ne2⟩ := hR2
  obtain ⟨a, cc, rfl⟩ := hs.form
  have hle := hs.le
  have hq1 := hq
  rw [hc2 _ _ (by omega), hc1 _ _ (by omega), new_other _ _ _ _ _ (by omega), new_other _ _ _ _ _ (by omega)] at hq1
  simp (disch := omega) only [go_sem, ↓reduceIte , hc2, hc1, hm, hq1]
  have hs3 : SlA (tt + 1) _ 7 (.slice a ts.length cc) ts.length (tdCells ts) own := hs.kp (S := fun _ => False) (nx' := tt + 1) (H' := (((((((H2.new tt #[.int .u32 0, .int .u8 0, .int .i64 0, .int .i64 0, .int .u16 0, .int .u16 0, .int .u64 0] 43).put tt 0 (.int .u32 x.addr)).put tt 1 (.int .u8 x.len)).put tt (1 + 1) (.int .i64 x.who)).put tt (1 + 1 + 1) (.int .i64 x.node)).put tt (1 + 1 + 1 + 1) (.int .u16 x.seq)).put tt (1 + 1 + 1 + 1 + 1) (.int .u16 65535)).put tt (1 + 1 + 1 + 1 + 1 + 1) (.int .u64 (now + 50))) (by repeat first | exact Kp.refl _ _ _ | refine Kp.dropT ?_ (.inl (by omega)) | refine Kp.put ?_ (.inl (by omega)) | refine Kp.new ?_ (by omega) | refine Kp.put ?_ (.inr (by omega)) | refine Kp.trans0 ?_ (by assumption) (by omega) | refine Kp.transS ?_ (by assumption) (by omega) (fun b hb hT => by first | omega | (dsimp only at hT ⊢; omega) | (simp only at hT ⊢; omega)))  (by omega) (by simp)
  rw [show (i : Int) + 1 = ((i + 1 : Nat) : Int) by omega]
  refine (delTold_c hs3 ow2 i (i + 1) (by omega) (by omega)).mono fun v H4 nx4 _ ⟨hx4, hk4, hs4⟩ => ?_
  subst hx4
  have hc4 := hk4.cell
  have hone4 := hs4.one
  simp (disch := omega) only [go_sem, ↓reduceIte , hc4, hone4, hc2, hc1, hq1]
  refine ⟨by omega, (by repeat first | exact Kp.refl _ _ _ | refine Kp.dropT ?_ (.inl (by omega)) | refine Kp.put ?_ (.inl (by omega)) | refine Kp.new ?_ (by omega) | refine Kp.put ?_ (.inr (by omega)) | refine Kp.trans0 ?_ (by assumption) (by omega) | refine Kp.transS ?_ (by assumption) (by omega) (fun b hb hT => by first | omega | (dsimp only at hT ⊢; omega) | (simp only at hT ⊢; omega))) , ⟨by omega, by omega, ⟨v, by simp (disch := omega) only [go_sem, ↓reduceIte ], ?_⟩, ow2, ne2⟩⟩
  exact hs4.put (by omega)

theorem tell_still {lo : Nat} {p : Nat} {ts : List Tld} {own : Nat} {H : AH} {nx : Nat} (hR : RouA lo nx H p ts own) (x : Tld) (now : Int) (b0 : 0 ≤ x.who) (b1 : x.who < 16) (n0 : 0 ≤ x.node) (n1 : x.node < 16) (hpx : pxRightC x.addr x.len = true) (l0 : 0 ≤ x.len)
    (w0 : 0 ≤ now) (w1 : now ≤ 1000000) (hm : x.metric = 65535) (hn : ∀ t ∈ ts, hitC x.addr x.len x.who t = false) :
    ACalls Try.prog lo 25 #[.pointer (some ⟨p, 0, none⟩), .int .i64 x.who, .agg #[.int .u32 x.addr, .int .u8 x.len], .int .i64 x.node, .agg #[.int .u16 x.seq, .int .u16 x.metric], .int .u64 now] H nx (fun v H' nx' => v = .int .i64 0 ∧ nx ≤ nx' ∧ Kp (fun _ => False) nx H H') := by
  refine ACalls.withLo fun hlo => ?_
  refine acalls_of_awp L25 Try.func25 rfl (by kernel_rfl) ?_
  simp (disch := omega) only [go_sem, ↓reduceIte ]
  intro tp htp
  simp (disch := omega) only [go_sem, ↓reduceIte ]
  intro tm htm
  simp (disch := omega) only [go_sem, ↓reduceIte ]
  refine (pxRight_c _ _ l0 _ _).mono fun v H1 nx1 _ ⟨hv, hx1, hk1⟩ => ?_
  subst hv
  have hc1 := hk1.cell0
  have hlt := hR.lt
  have hR1 : RouA lo nx1 H1 p ts own := hR.kp (S := fun _ => False) (by repeat first | exact Kp.refl _ _ _ | refine Kp.dropT ?_ (.inl (by omega)) | refine Kp.put ?_ (.inl (by omega)) | refine Kp.new ?_ (by omega) | refine Kp.put ?_ (.inr (by omega)) | refine Kp.trans0 ?_ (by assumption) (by omega) | refine Kp.transS ?_ (by assumption) (by omega) (fun b hb hT => by first | omega | (dsimp only at hT ⊢; omega) | (simp only at hT ⊢; omega)))  (by omega) (by simp) (by simp)
  simp (disch := omega) only [go_sem, ↓reduceIte , hpx, hc1]
  refine (rfind_c hR1 x.addr x.len x.who).mono fun v H2 nx2 _ ⟨hv, hx2, hk2⟩ => ?_
  have := idxR_none hv hn
  subst this
  have hc2 := hk2.cell0
  simp (disch := omega) only [go_sem, ↓reduceIte , hc2, hc1]
  intro tt htt
  simp (disch := omega) only [go_sem, ↓reduceIte , hc2, hc1, hm]
  exact ⟨by omega, (by repeat first | exact Kp.refl _ _ _ | refine Kp.dropT ?_ (.inl (by omega)) | refine Kp.put ?_ (.inl (by omega)) | refine Kp.new ?_ (by omega) | refine Kp.put ?_ (.inr (by omega)) | refine Kp.trans0 ?_ (by assumption) (by omega) | refine Kp.transS ?_ (by assumption) (by omega) (fun b hb hT => by first | omega | (dsimp only at hT ⊢; omega) | (simp only at hT ⊢; omega))) ⟩
end Go.Proofs.Ytgopmklcggoliaa
