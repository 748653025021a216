/- Routes, in our own logic: slices.Delete; Tell that there is no way. Routes, in our own logic: Drop; Tell in one contract; plain: keys. -/
import Derived.Test.YtngnbafididkcaaGreatR3
import Derived.Test.YtngnbafididkcaaGreatR5
import Derived.Test.YtngnbafididkcaaGreatR7
section
namespace Go.Proofs.YtngnbafididkcaaGreat
open Go.RowKit
set_option linter.unusedSimpArgs false

set_option maxRecDepth 20000 in
/-- One, or more, taken out of the middle. -/
theorem delTold_c {lo : Nat} {H : AH} {nx : Nat} {s : Value} {l : List Tld} {own : Nat} (hs : SlA nx H 7 s l.length (tdCells l) own) (hlo : own = 0 ∨ lo < own) (i j : Nat) (hij : i < j) (hj : j ≤ l.length) :
    ACalls Tryz.prog lo 76 #[s, .int .i64 i, .int .i64 j] H nx
      (fun v H' nx' => nx' = nx ∧ Kp (fun b => b + 1 = own) nx H H' ∧ SlA nx H' 7 v (l.take i ++ l.drop j).length (tdCells (l.take i ++ l.drop j)) own) := by
  refine acalls_of_awp L76 Tryz.func76 rfl (by kernel_rfl) ?_
  obtain ⟨g, off, cap, rfl, ho⟩ := hs.open (by omega)
  obtain ⟨hc, _, hcap, hmx, hsp⟩ := hs.cells
  simp only [maxLen] at hmx
  have hgl := hs.le
  simp (disch := omega) only [go_sem, ↓reduceIte , slice_lhm sl143]
  refine awp_draw ord76x5 (by kernel_rfl) ?_
  simp (disch := omega) only [go_sem, ↓reduceIte , ord76x5, slice_h sl143, slice_l sl143]
  have hcut := hs.cut (l := j) (h := l.length) (m := cap) hj (Nat.le_refl _) hcap (Nat.le_refl _)
  have hsrc : SrcA Tryz.prog H 7 143 _ (l.length - j) _ := hcut.src sl143 (fun v hv => tdCells_one v (List.mem_of_mem_drop (List.mem_of_mem_take hv)))
  have hless := hs.less (i := i) (by omega)
  have hnews : ((tdCells l).drop (j * 7)).take ((l.length - j) * 7) = tdCells (l.drop j) := by
    rw [show tdCells l = l.flatMap Tld.cells from rfl, flat_drop td_seven, List.take_of_length_le]
    · rfl
    · rw [flat_length td_seven, List.length_drop]; exact Nat.le_refl _
  rw [hnews] at hsrc
  rw [show tdCells l = l.flatMap Tld.cells from rfl, flat_take td_seven] at hless
  refine appendQ_two (aw_append_room sl143 hsrc (by omega) (by omega) (fun k hk => ?_) ?_)
  · have := hsp (i * 7 + k) (by omega)
    rwa [← Nat.add_assoc] at this
  have hroom := hless.room (m := l.length - j) hsrc.newsLen (by omega)
  rw [show (l.take i).flatMap Tld.cells = tdCells (l.take i) from rfl, ← tdCells_append] at hroom
  simp (disch := omega) only [go_sem, ↓reduceIte ]
  refine ⟨dkeep_last (by kernel_rfl), ?_⟩
  simp (disch := omega) only [go_sem, ↓reduceIte , slice_lh sl143]
  refine clearQ_one (aw_clear sl143 zero142 (by omega) (by omega) (zeroCells_one (by decide) (by kernel_rfl) _) (fun k hk => ?_) ?_)
  · have := hroom.cells.2.2.2.2 ((i + (l.length - j)) * 7 + k) (by simp only [size_zeroCells, cells_agg, List.size_toArray, List.length_cons, List.length_nil] at hk; omega)
    rwa [← Nat.add_assoc] at this
  have hend := hroom.beyond (o := off + (i + (l.length - j)) * 7) (vs := (Builtin.zeroCells (Value.agg #[.int .u32 0, .int .u8 0, .int .i64 0, .int .i64 0, .int .u16 0, .int .u16 0, .int .u64 0]).cells (l.length - (i + (l.length - j)))).toList) (Nat.le_refl _)
  simp (disch := omega) only [go_sem, ↓reduceIte ]
  refine ⟨Kp.puts (.inr (by omega)) _ _ _ (Kp.puts (.inr (by omega)) _ _ _ (Kp.refl _ _ _)), ?_⟩
  rw [show (l.take i ++ l.drop j).length = i + (l.length - j) by simp; omega]
  exact hend

set_option maxRecDepth 20000 in
theorem tell_gone {lo : Nat} {p : Nat} {ts : List Tld} {own : Nat} {H : AH} {nx : Nat} (hR : RouA lo nx H p ts own) (x : Tld) (now : Int) (b0 : 0 ≤ x.who) (b1 : x.who < 16) (n0 : 0 ≤ x.node) (n1 : x.node < 16) (hpx : pxRightC x.addr x.len = true) (l0 : 0 ≤ x.len)
    (w0 : 0 ≤ now) (w1 : now ≤ 1000000) (hm : x.metric = 65535) (hl : ts.length ≤ 256) {i : Nat} {t0 : Tld} (hi : ts[i]? = some t0) (hit : hitC x.addr x.len x.who t0 = true) (hfst : ∀ j t', j < i → ts[j]? = some t' → hitC x.addr x.len x.who t' = false) :
    ACalls Tryz.prog lo 42 #[.pointer (some ⟨p, 0, none⟩), .int .i64 x.who, .agg #[.int .u32 x.addr, .int .u8 x.len], .int .i64 x.node, .agg #[.int .u16 x.seq, .int .u16 x.metric], .int .u64 now] H nx (fun v H' nx' => v = .int .i64 0 ∧ nx ≤ nx' ∧ Kp (fun b => b = p ∨ b + 1 = own) nx H H' ∧ RouA lo nx' H' p (ts.take i ++ ts.drop (i + 1)) own) := by
  refine ACalls.withLo fun hlo => ?_
  refine acalls_of_awp L42 Tryz.func42 rfl (by kernel_rfl) ?_
  have hge := hR.ge
  have hlt := hR.lt
  have hne := hR.ne
  have hil : i < ts.length := (List.getElem?_eq_some_iff.1 hi).1
  simp (disch := omega) only [go_sem, ↓reduceIte ]
  intro tp htp
  simp (disch := omega) only [go_sem, ↓reduceIte ]
  intro tm htm
  simp (disch := omega) only [go_sem, ↓reduceIte ]
  refine (pxRight_c _ _ l0 _ _).mono fun v H1 nx1 _ ⟨hv, hx1, hk1⟩ => ?_
  subst hv
  have hc1 := hk1.cell0
  have hR1 : RouA lo nx1 H1 p ts own := hR.kp (S := fun _ => False) (by repeat first | exact Kp.refl _ _ _ | refine Kp.dropT ?_ (.inl (by omega)) | refine Kp.put ?_ (.inl (by omega)) | refine Kp.new ?_ (by omega) | refine Kp.put ?_ (.inr (by omega)) | refine Kp.newO ?_ (by omega) | refine Kp.setO ?_ (.inl (by omega)) | refine Kp.setO ?_ (.inr (by omega)) | refine Kp.trans0 ?_ (by assumption) (by omega) | refine Kp.transS ?_ (by assumption) (by omega) (fun b hb hT => by first | omega | (dsimp only at hT ⊢; omega) | (simp only at hT ⊢; omega)))  (by omega) (by simp) (by simp)
  simp (disch := omega) only [go_sem, ↓reduceIte , hpx, hc1]
  refine (rfind_c hR1 x.addr x.len x.who).mono fun v H2 nx2 _ ⟨hv, hx2, hk2⟩ => ?_
  have := idxR_at hv hi hit hfst
  subst this
  have hc2 := hk2.cell0
  have hR2 : RouA lo nx2 H2 p ts own := hR1.kp (S := fun _ => False) hk2 hx2 (by simp) (by simp)
  simp (disch := omega) only [go_sem, ↓reduceIte , hc2, hc1]
  intro tt htt
  obtain ⟨ge2, lt2, ⟨v, hq, hs⟩, ow2, ne2⟩ := hR2
  obtain ⟨a, cc, rfl⟩ := hs.form
  have hle := hs.le
  have hq1 := hq
  rw [hc2 _ _ (by omega), hc1 _ _ (by omega), new_other _ _ _ _ _ (by omega), new_other _ _ _ _ _ (by omega)] at hq1
  simp (disch := omega) only [go_sem, ↓reduceIte , hc2, hc1, hm, hq1]
  have hs3 : SlA (tt + 1) _ 7 (.slice a ts.length cc) ts.length (tdCells ts) own := hs.kp (S := fun _ => False) (nx' := tt + 1) (H' := (((((((H2.new tt #[.int .u32 0, .int .u8 0, .int .i64 0, .int .i64 0, .int .u16 0, .int .u16 0, .int .u64 0] 142).put tt 0 (.int .u32 x.addr)).put tt 1 (.int .u8 x.len)).put tt (1 + 1) (.int .i64 x.who)).put tt (1 + 1 + 1) (.int .i64 x.node)).put tt (1 + 1 + 1 + 1) (.int .u16 x.seq)).put tt (1 + 1 + 1 + 1 + 1) (.int .u16 65535)).put tt (1 + 1 + 1 + 1 + 1 + 1) (.int .u64 (now + 50))) (by repeat first | exact Kp.refl _ _ _ | refine Kp.dropT ?_ (.inl (by omega)) | refine Kp.put ?_ (.inl (by omega)) | refine Kp.new ?_ (by omega) | refine Kp.put ?_ (.inr (by omega)) | refine Kp.newO ?_ (by omega) | refine Kp.setO ?_ (.inl (by omega)) | refine Kp.setO ?_ (.inr (by omega)) | refine Kp.trans0 ?_ (by assumption) (by omega) | refine Kp.transS ?_ (by assumption) (by omega) (fun b hb hT => by first | omega | (dsimp only at hT ⊢; omega) | (simp only at hT ⊢; omega)))  (by omega) (by simp)
  rw [show (i : Int) + 1 = ((i + 1 : Nat) : Int) by omega]
  refine (delTold_c hs3 ow2 i (i + 1) (by omega) (by omega)).mono fun v H4 nx4 _ ⟨hx4, hk4, hs4⟩ => ?_
  subst hx4
  have hc4 := hk4.cell
  have hone4 := hs4.one
  simp (disch := omega) only [go_sem, ↓reduceIte , hc4, hone4, hc2, hc1, hq1]
  refine ⟨by omega, (by repeat first | exact Kp.refl _ _ _ | refine Kp.dropT ?_ (.inl (by omega)) | refine Kp.put ?_ (.inl (by omega)) | refine Kp.new ?_ (by omega) | refine Kp.put ?_ (.inr (by omega)) | refine Kp.newO ?_ (by omega) | refine Kp.setO ?_ (.inl (by omega)) | refine Kp.setO ?_ (.inr (by omega)) | refine Kp.trans0 ?_ (by assumption) (by omega) | refine Kp.transS ?_ (by assumption) (by omega) (fun b hb hT => by first | omega | (dsimp only at hT ⊢; omega) | (simp only at hT ⊢; omega))) , ⟨by omega, by omega, ⟨v, by simp (disch := omega) only [go_sem, ↓reduceIte ], ?_⟩, ow2, ne2⟩⟩
  exact hs4.put (by omega)

theorem tell_still {lo : Nat} {p : Nat} {ts : List Tld} {own : Nat} {H : AH} {nx : Nat} (hR : RouA lo nx H p ts own) (x : Tld) (now : Int) (b0 : 0 ≤ x.who) (b1 : x.who < 16) (n0 : 0 ≤ x.node) (n1 : x.node < 16) (hpx : pxRightC x.addr x.len = true) (l0 : 0 ≤ x.len)
    (w0 : 0 ≤ now) (w1 : now ≤ 1000000) (hm : x.metric = 65535) (hn : ∀ t ∈ ts, hitC x.addr x.len x.who t = false) :
    ACalls Tryz.prog lo 42 #[.pointer (some ⟨p, 0, none⟩), .int .i64 x.who, .agg #[.int .u32 x.addr, .int .u8 x.len], .int .i64 x.node, .agg #[.int .u16 x.seq, .int .u16 x.metric], .int .u64 now] H nx (fun v H' nx' => v = .int .i64 0 ∧ nx ≤ nx' ∧ Kp (fun _ => False) nx H H') := by
  refine ACalls.withLo fun hlo => ?_
  refine acalls_of_awp L42 Tryz.func42 rfl (by kernel_rfl) ?_
  simp (disch := omega) only [go_sem, ↓reduceIte ]
  intro tp htp
  simp (disch := omega) only [go_sem, ↓reduceIte ]
  intro tm htm
  simp (disch := omega) only [go_sem, ↓reduceIte ]
  refine (pxRight_c _ _ l0 _ _).mono fun v H1 nx1 _ ⟨hv, hx1, hk1⟩ => ?_
  subst hv
  have hc1 := hk1.cell0
  have hlt := hR.lt
  have hR1 : RouA lo nx1 H1 p ts own := hR.kp (S := fun _ => False) (by repeat first | exact Kp.refl _ _ _ | refine Kp.dropT ?_ (.inl (by omega)) | refine Kp.put ?_ (.inl (by omega)) | refine Kp.new ?_ (by omega) | refine Kp.put ?_ (.inr (by omega)) | refine Kp.newO ?_ (by omega) | refine Kp.setO ?_ (.inl (by omega)) | refine Kp.setO ?_ (.inr (by omega)) | refine Kp.trans0 ?_ (by assumption) (by omega) | refine Kp.transS ?_ (by assumption) (by omega) (fun b hb hT => by first | omega | (dsimp only at hT ⊢; omega) | (simp only at hT ⊢; omega)))  (by omega) (by simp) (by simp)
  simp (disch := omega) only [go_sem, ↓reduceIte , hpx, hc1]
  refine (rfind_c hR1 x.addr x.len x.who).mono fun v H2 nx2 _ ⟨hv, hx2, hk2⟩ => ?_
  have := idxR_none hv hn
  subst this
  have hc2 := hk2.cell0
  simp (disch := omega) only [go_sem, ↓reduceIte , hc2, hc1]
  intro tt htt
  simp (disch := omega) only [go_sem, ↓reduceIte , hc2, hc1, hm]
  exact ⟨by omega, (by repeat first | exact Kp.refl _ _ _ | refine Kp.dropT ?_ (.inl (by omega)) | refine Kp.put ?_ (.inl (by omega)) | refine Kp.new ?_ (by omega) | refine Kp.put ?_ (.inr (by omega)) | refine Kp.newO ?_ (by omega) | refine Kp.setO ?_ (.inl (by omega)) | refine Kp.setO ?_ (.inr (by omega)) | refine Kp.trans0 ?_ (by assumption) (by omega) | refine Kp.transS ?_ (by assumption) (by omega) (fun b hb hT => by first | omega | (dsimp only at hT ⊢; omega) | (simp only at hT ⊢; omega))) ⟩
end Go.Proofs.YtngnbafididkcaaGreat
end
section
namespace Go.Proofs.YtngnbafididkcaaGreat
open Go.RowKit
set_option linter.unusedSimpArgs false

theorem dropC_c {lo : Nat} {H : AH} {nx tb : Nat} {by0 : Int} (hb : tb < nx) (c2 : H.c tb 0 = some (.int .i64 by0)) (t : Tld) :
    ACalls Tryz.prog lo 105 #[.agg #[.int .u32 t.addr, .int .u8 t.len, .int .i64 t.who, .int .i64 t.node, .int .u16 t.seq, .int .u16 t.metric, .int .u64 t.til], .pointer (some ⟨tb, 0, none⟩)] H nx (fun v H' nx' => v = .bool (decide (t.who = by0)) ∧ nx ≤ nx' ∧ Kp (fun _ => False) nx H H') := by
  refine ACalls.withLo fun hlo => ?_
  refine acalls_of_awp L105 Tryz.func105 rfl (by kernel_rfl) ?_
  simp (disch := omega) only [go_sem, ↓reduceIte ]
  intro d hd
  simp (disch := omega) only [go_sem, ↓reduceIte , c2]
  exact ⟨by omega, (by repeat first | exact Kp.refl _ _ _ | refine Kp.dropT ?_ (.inl (by omega)) | refine Kp.put ?_ (.inl (by omega)) | refine Kp.new ?_ (by omega) | refine Kp.put ?_ (.inr (by omega)) | refine Kp.newO ?_ (by omega) | refine Kp.setO ?_ (.inl (by omega)) | refine Kp.setO ?_ (.inr (by omega)) | refine Kp.trans0 ?_ (by assumption) (by omega) | refine Kp.transS ?_ (by assumption) (by omega) (fun b hb hT => by first | omega | (dsimp only at hT ⊢; omega) | (simp only at hT ⊢; omega))) ⟩

theorem rdrop_c {lo : Nat} {p : Nat} {ts : List Tld} {own : Nat} {H : AH} {nx : Nat} (hR : RouA lo nx H p ts own) (hl : ts.length ≤ 1000000) (by0 : Int) :
    ACalls Tryz.prog lo 67 #[.pointer (some ⟨p, 0, none⟩), .int .i64 by0] H nx (fun v H' nx' => v = .tuple #[] ∧ nx ≤ nx' ∧ Kp (fun b => b = p ∨ b + 1 = own) nx H H' ∧ RouA lo nx' H' p (ts.filter fun t => !decide (t.who = by0)) own) := by
  refine ACalls.withLo fun hlo => ?_
  refine acalls_of_awp L67 Tryz.func67 rfl (by kernel_rfl) ?_
  have hlt := hR.lt
  have hge := hR.ge
  have hne := hR.ne
  obtain ⟨v, hq, hs⟩ := hR.q
  have hle := hs.le
  have hone := hs.one
  obtain ⟨sa, sc, rfl⟩ := hs.form
  simp (disch := omega) only [go_sem, ↓reduceIte ]
  intro tb htb
  simp (disch := omega) only [go_sem, ↓reduceIte , hq]
  have hk1 : Kp (fun _ => False) nx H (H.new tb #[.int .i64 by0] 3) := (by repeat first | exact Kp.refl _ _ _ | refine Kp.dropT ?_ (.inl (by omega)) | refine Kp.put ?_ (.inl (by omega)) | refine Kp.new ?_ (by omega) | refine Kp.put ?_ (.inr (by omega)) | refine Kp.newO ?_ (by omega) | refine Kp.setO ?_ (.inl (by omega)) | refine Kp.setO ?_ (.inr (by omega)) | refine Kp.trans0 ?_ (by assumption) (by omega) | refine Kp.transS ?_ (by assumption) (by omega) (fun b hb hT => by first | omega | (dsimp only at hT ⊢; omega) | (simp only at hT ⊢; omega))) 
  refine (delF_c (fv := 105) (cap := [.pointer (some ⟨tb, 0, none⟩)]) (pred := fun t => decide (t.who = by0)) (hs.kp hk1 (nx' := tb + 1) (by omega) (by simp)) hR.ow (by kernel_rfl) hl (fun t _ H1 nx1 hn hk2 => ?_)).mono fun v H2 nx2 _ ⟨hx2, hk2, hs2⟩ => ?_
  · have hc := hk2.cell
    exact dropC_c (by omega) (by simp (disch := omega) only [go_sem, ↓reduceIte , hc]) t
  · have hone2 := hs2.one
    have hc := hk2.cell
    simp (disch := omega) only [go_sem, ↓reduceIte , hone2, hc, hq]
    refine ⟨by omega, (by repeat first | exact Kp.refl _ _ _ | refine Kp.dropT ?_ (.inl (by omega)) | refine Kp.put ?_ (.inl (by omega)) | refine Kp.new ?_ (by omega) | refine Kp.put ?_ (.inr (by omega)) | refine Kp.newO ?_ (by omega) | refine Kp.setO ?_ (.inl (by omega)) | refine Kp.setO ?_ (.inr (by omega)) | refine Kp.trans0 ?_ (by assumption) (by omega) | refine Kp.transS ?_ (by assumption) (by omega) (fun b hb hT => by first | omega | (dsimp only at hT ⊢; omega) | (simp only at hT ⊢; omega))) , ⟨by omega, by omega, ⟨v, by simp (disch := omega) only [go_sem, ↓reduceIte ], ?_⟩, hR.ow, hR.ne⟩⟩
    exact hs2.put (by omega)

/-! ### Keys -/
def hitT (x t : Tld) : Bool := hitC x.addr x.len x.who t
theorem hitT_iff (x t : Tld) : hitT x t = true ↔ t.addr = x.addr ∧ t.len = x.len ∧ t.who = x.who := by simp [hitT, hitC, and_assoc]
theorem hitT_symm (x t : Tld) : hitT x t = hitT t x := by
  rw [Bool.eq_iff_iff, hitT_iff, hitT_iff]
  constructor <;> (rintro ⟨h1, h2, h3⟩; exact ⟨h1.symm, h2.symm, h3.symm⟩)
theorem hitT_trans {x y z : Tld} (h : hitT x y = true) : hitT x z = hitT y z := by
  rw [hitT_iff] at h
  rw [Bool.eq_iff_iff, hitT_iff, hitT_iff]
  obtain ⟨h1, h2, h3⟩ := h
  rw [h1, h2, h3]
def UqT (l : List Tld) : Prop := l.Pairwise (fun a b => hitT a b = false)
def delK (x : Tld) (l : List Tld) : List Tld := l.filter fun t => !hitT x t
theorem UqT.perm {l m : List Tld} (h : UqT l) (hp : l.Perm m) : UqT m := (hp.pairwise_iff (fun {a b} e => by rw [hitT_symm]; exact e)).1 h
theorem UqT.filter {l : List Tld} (h : UqT l) (q : Tld → Bool) : UqT (l.filter q) := List.Pairwise.filter q h
theorem delK_none {x : Tld} {l : List Tld} (h : ∀ t ∈ l, hitT x t = false) : delK x l = l := by
  unfold delK
  rw [List.filter_eq_self]
  intro t ht
  rw [h t ht]; rfl
theorem delK_at {x : Tld} {l : List Tld} (hu : UqT l) {i : Nat} {t0 : Tld} (hi : l[i]? = some t0) (hit : hitT x t0 = true) : delK x l = l.take i ++ l.drop (i + 1) := by
  obtain ⟨hil, rfl⟩ := List.getElem?_eq_some_iff.1 hi
  have e : l = l.take i ++ l[i] :: l.drop (i + 1) := by rw [← List.drop_eq_getElem_cons hil, List.take_append_drop]
  have hu2 := hu
  unfold UqT at hu2
  rw [e, List.pairwise_append, List.pairwise_cons] at hu2
  obtain ⟨_, ⟨h2, _⟩, h3⟩ := hu2
  have a1 : ∀ t ∈ l.take i, hitT x t = false := fun t ht => by
    rw [hitT_trans hit, hitT_symm]
    exact h3 t ht l[i] List.mem_cons_self
  have a2 : ∀ t ∈ l.drop (i + 1), hitT x t = false := fun t ht => by
    rw [hitT_trans hit]
    exact h2 t ht
  conv => lhs; rw [e]
  unfold delK
  rw [List.filter_append, List.filter_cons_of_neg (by simp [hit])]
  have b1 := delK_none a1
  have b2 := delK_none a2
  unfold delK at b1 b2
  rw [b1, b2]
theorem set_perm {x : Tld} {l : List Tld} (hu : UqT l) {i : Nat} {t0 : Tld} (hi : l[i]? = some t0) (hit : hitT x t0 = true) : (l.set i x).Perm (delK x l ++ [x]) := by
  have hil := (List.getElem?_eq_some_iff.1 hi).1
  rw [delK_at hu hi hit, List.set_eq_take_append_cons_drop, if_pos hil]
  exact (List.perm_middle.trans (List.perm_append_singleton _ _).symm)
theorem first_hit {x : Tld} {l : List Tld} (h : ¬ ∀ t ∈ l, hitT x t = false) : ∃ (i : Nat) (t0 : Tld), l[i]? = some t0 ∧ hitT x t0 = true ∧ ∀ (j : Nat) (t' : Tld), j < i → l[j]? = some t' → hitT x t' = false := by
  induction l with
  | nil => exact absurd (by simp) h
  | cons a r ih =>
    cases ha : hitT x a with
    | true => exact ⟨0, a, rfl, ha, fun j t' hj => by omega⟩
    | false =>
      obtain ⟨i, t0, h1, h2, h3⟩ := ih (fun hr => h (by simp [ha]; exact hr))
      refine ⟨i + 1, t0, h1, h2, fun j t' hj ht => ?_⟩
      cases j with
      | zero => simp only [List.getElem?_cons_zero, Option.some.injEq] at ht; subst ht; exact ha
      | succ j => exact h3 j t' (by omega) (by simpa using ht)

/-- Tell. -/
def toldR (x : Tld) : List Tld := if x.metric = 65535 then [] else [x]
theorem tell_c {lo : Nat} {p : Nat} {ts : List Tld} {own : Nat} {H : AH} {nx : Nat} (hR : RouA lo nx H p ts own) (hu : UqT ts) (x : Tld) (now : Int) (hx : TdOk x) (n0 : 0 ≤ x.node) (n1 : x.node < 16) (hpx : pxRightC x.addr x.len = true)
    (w0 : 0 ≤ now) (w1 : now ≤ 1000000) (ht : x.til = now + 50) (hl : ts.length < 256) :
    ACalls Tryz.prog lo 42 #[.pointer (some ⟨p, 0, none⟩), .int .i64 x.who, .agg #[.int .u32 x.addr, .int .u8 x.len], .int .i64 x.node, .agg #[.int .u16 x.seq, .int .u16 x.metric], .int .u64 now] H nx (fun v H' nx' => v = .int .i64 0 ∧ nx ≤ nx' ∧ Kp (fun b => b = p ∨ b + 1 = own) nx H H' ∧ ∃ ts' own', RouA lo nx' H' p ts' own' ∧ (own' = own ∨ nx < own') ∧ ts'.Perm (delK x ts ++ toldR x)) := by
  by_cases hm : x.metric = 65535
  · by_cases hn : ∀ t ∈ ts, hitT x t = false
    · refine (tell_still hR x now hx.w0 hx.w1 n0 n1 hpx hx.l0 w0 w1 hm hn).mono fun v H' nx' _ ⟨hv, hx', hk⟩ => ⟨hv, hx', hk.mono (Nat.le_refl _) (fun _ _ h => h.elim), ts, own, hR.kp hk hx' (by simp) (by simp), .inl rfl, ?_⟩
      rw [delK_none hn, toldR, if_pos hm, List.append_nil]
    · obtain ⟨i, t0, h1, h2, h3⟩ := first_hit hn
      refine (tell_gone hR x now hx.w0 hx.w1 n0 n1 hpx hx.l0 w0 w1 hm (by omega) h1 h2 h3).mono fun v H' nx' _ ⟨hv, hx', hk, hR'⟩ => ⟨hv, hx', hk, _, own, hR', .inl rfl, ?_⟩
      rw [delK_at hu h1 h2, toldR, if_pos hm, List.append_nil]
  · by_cases hn : ∀ t ∈ ts, hitT x t = false
    · refine (tell_add hR x now hx.w0 hx.w1 n0 n1 hpx hx.l0 w0 w1 ht hm hl hn).mono fun v H' nx' _ ⟨hv, hx', hk, own', hR', ho⟩ => ⟨hv, hx', hk, _, own', hR', ho, ?_⟩
      rw [delK_none hn, toldR, if_neg hm]
    · obtain ⟨i, t0, h1, h2, h3⟩ := first_hit hn
      refine (tell_set hR x now hx.w0 hx.w1 n0 n1 hpx hx.l0 w0 w1 ht hm (by omega) h1 h2 h3).mono fun v H' nx' _ ⟨hv, hx', hk, hR'⟩ => ⟨hv, hx', hk, _, own, hR', .inl rfl, ?_⟩
      rw [toldR, if_neg hm]
      exact set_perm hu h1 h2
end Go.Proofs.YtngnbafididkcaaGreat
end
