/- Marks and serials, beside routes. Sources, in our own logic: find, Mark, Feasible. -/
import Derived.Test.YtngnbafididkcaaGreatR5
import Derived.Test.YtngnbafididkcaaGreatC5
section

end
section
namespace Go.Proofs.YtngnbafididkcaaGreat
open Go.RowKit
set_option linter.unusedSimpArgs false

/-- A mark, as it lies. -/
structure Ent where
  addr : Int
  len : Int
  seq : Int
  metric : Int
def Ent.cells (t : Ent) : List Value := [.int .u32 t.addr, .int .u8 t.len, .int .u16 t.seq, .int .u16 t.metric]
def enCells (l : List Ent) : List Value := l.flatMap Ent.cells
theorem en_four (t : Ent) : t.cells.length = 4 := rfl
theorem en_load {nx : Nat} {H : AH} {g off c n own : Nat} {l : List Ent} (hs : SlA nx H 4 (.slice (some ⟨g, off, none⟩) n c) n (enCells l) own) {i : Nat} {x : Ent} (hi : l[i]? = some x) : loadN H g (off + i * 4) 4 = some x.cells := flat_load en_four hs hi
theorem enCells_one {l : List Ent} : ∀ v ∈ enCells l, v.oneCell' = true := by
  intro v hv
  simp only [enCells, List.mem_flatMap] at hv
  obtain ⟨c, _, hv⟩ := hv
  simp only [Ent.cells, List.mem_cons, List.not_mem_nil, or_false] at hv
  rcases hv with rfl | rfl | rfl | rfl <;> rfl
theorem enCells_append (a b : List Ent) : enCells (a ++ b) = enCells a ++ enCells b := by simp [enCells]
theorem en_cells {nx : Nat} {H : AH} {g off c n own : Nat} {l : List Ent} (hs : SlA nx H 4 (.slice (some ⟨g, off, none⟩) n c) n (enCells l) own) {i : Nat} {x : Ent} (hi : l[i]? = some x) (j : Nat) (hj : j < 4) : H.c g (off + i * 4 + j) = x.cells[j]? := by
  have h5 := flat_get en_four l i x hi j hj
  rw [show off + i * 4 + j = off + (4 * i + j) by omega]
  obtain ⟨u, hu⟩ : ∃ u, x.cells[j]? = some u := ⟨_, List.getElem?_eq_getElem (by rw [en_four]; exact hj)⟩
  rw [hu] at h5 ⊢
  exact hs.cells.1 _ _ h5

def ltP (a n a' n' : Int) : Prop := a < a' ∨ (a = a' ∧ n < n')
/-- A source in block q: marks in order. -/
structure SouA (lo nx : Nat) (H : AH) (p : Nat) (es : List Ent) (own : Nat) : Prop where
  ge : lo ≤ p
  lt : p < nx
  q : ∃ v, H.c p 0 = some v ∧ SlA nx H 4 v es.length (enCells es) own
  ow : own = 0 ∨ lo < own
  ne : own ≠ p + 1
  sorted : es.Pairwise (fun x y => ltP x.addr x.len y.addr y.len)

theorem SouA.kp {lo nx : Nat} {H : AH} {p : Nat} {es : List Ent} {own : Nat} (h : SouA lo nx H p es own) {S : Nat → Prop} {nx' : Nat} {H' : AH} (hk : Kp S nx H H') (hn : nx ≤ nx') (h1 : ¬ S p) (h2 : ∀ b, b + 1 = own → ¬ S b) : SouA lo nx' H' p es own := by
  obtain ⟨v, hv, hs⟩ := h.q
  have hlt := h.lt
  have hp := hk p hlt h1
  exact ⟨h.ge, by omega, ⟨v, by rw [hp.1]; exact hv, hs.kp hk hn h2⟩, h.ow, h.ne, h.sorted⟩

theorem pxCmp_neg (a n a' n' : Int) : pxCmpI a n a' n' < 0 ↔ ltP a n a' n' := by
  unfold pxCmpI orI2 cmpI ltP
  repeat' split
  all_goals omega
theorem pxCmp_zero (a n a' n' : Int) : pxCmpI a n a' n' = 0 ↔ a = a' ∧ n = n' := by
  unfold pxCmpI orI2 cmpI
  repeat' split
  all_goals omega
theorem pxCmp_rng (a n a' n' : Int) : -1 ≤ pxCmpI a n a' n' ∧ pxCmpI a n a' n' ≤ 1 := by
  unfold pxCmpI orI2 cmpI
  repeat' split
  all_goals omega

theorem sfindC_c {lo : Nat} (x : Ent) (a n : Int) (H : AH) (nx : Nat) : ACalls Tryz.prog lo 113 #[.agg #[.int .u32 x.addr, .int .u8 x.len, .int .u16 x.seq, .int .u16 x.metric], .agg #[.int .u32 a, .int .u8 n]] H nx (fun v H' nx' => v = .int .i64 (pxCmpI x.addr x.len a n) ∧ nx ≤ nx' ∧ Kp (fun _ => False) nx H H') := by
  refine ACalls.withLo fun hlo => ?_
  refine acalls_of_awp L113 Tryz.func113 rfl (by kernel_rfl) ?_
  simp (disch := omega) only [go_sem, ↓reduceIte ]
  intro p hp
  simp (disch := omega) only [go_sem, ↓reduceIte ]
  intro q hq
  simp (disch := omega) only [go_sem, ↓reduceIte ]
  refine (pxCmp_c _ _ _ _ _ _).mono fun v H1 nx1 _ ⟨hv, hx1, hk1⟩ => ?_
  subst hv
  simp (disch := omega) only [go_sem, ↓reduceIte ]
  exact ⟨by omega, (by repeat first | exact Kp.refl _ _ _ | refine Kp.dropT ?_ (.inl (by omega)) | refine Kp.put ?_ (.inl (by omega)) | refine Kp.new ?_ (by omega) | refine Kp.put ?_ (.inr (by omega)) | refine Kp.newO ?_ (by omega) | refine Kp.setO ?_ (.inl (by omega)) | refine Kp.setO ?_ (.inr (by omega)) | refine Kp.trans0 ?_ (by assumption) (by omega) | refine Kp.transS ?_ (by assumption) (by omega) (fun b hb hT => by first | omega | (dsimp only at hT ⊢; omega) | (simp only at hT ⊢; omega))) ⟩

/-- Where a prefix's mark is, or would be. -/
structure PlP (es : List Ent) (a n : Int) (i : Nat) : Prop where
  le : i ≤ es.length
  bef : ∀ (j : Nat) (x : Ent), j < i → es[j]? = some x → ltP x.addr x.len a n
  aft : ∀ (j : Nat) (x : Ent), i ≤ j → es[j]? = some x → ¬ ltP x.addr x.len a n

structure BinJ (nx0 : Nat) (H0 : AH) (s f : Value) (b : Nat) (es : List Ent) (a n : Int) (m : Nat) (env : Env) (H : AH) (nx i j : Nat) : Prop where
  hm : m = j - i
  hij : i ≤ j
  hj : j ≤ es.length
  henv : env = [(0, s), (2, f), (4, .pointer (some ⟨b, 0, none⟩)), (8, .int .i64 es.length), (9, .int .i64 i), (10, .int .i64 j)]
  hx : nx0 ≤ nx
  hk : Kp (fun _ => False) nx0 H0 H
  bef : ∀ (k : Nat) (x : Ent), k < i → es[k]? = some x → ltP x.addr x.len a n
  aft : ∀ (k : Nat) (x : Ent), j ≤ k → es[k]? = some x → ¬ ltP x.addr x.len a n

theorem sorted_lt {es : List Ent} (hs : es.Pairwise (fun x y => ltP x.addr x.len y.addr y.len)) {i j : Nat} {x y : Ent} (hx : es[i]? = some x) (hy : es[j]? = some y) (h : i < j) : ltP x.addr x.len y.addr y.len := by
  obtain ⟨hi, rfl⟩ := List.getElem?_eq_some_iff.1 hx
  obtain ⟨hj, rfl⟩ := List.getElem?_eq_some_iff.1 hy
  rw [List.pairwise_iff_getElem] at hs
  exact hs i j hi hj h

set_option maxRecDepth 20000 in
theorem binS_c {lo : Nat} {H : AH} {nx : Nat} {s : Value} {es : List Ent} {own : Nat} (hs : SlA nx H 4 s es.length (enCells es) own) (hso : es.Pairwise (fun x y => ltP x.addr x.len y.addr y.len)) (hl : es.length ≤ 1000000) (a n : Int) :
    ACalls Tryz.prog lo 112 #[s, .agg #[.int .u32 a, .int .u8 n], .func (.func 113) #[] #[]] H nx (fun v H' nx' => nx ≤ nx' ∧ Kp (fun _ => False) nx H H' ∧ ∃ i : Nat, PlP es a n i ∧ v = .tuple #[.int .i64 i, .bool (decide (∃ x, es[i]? = some x ∧ x.addr = a ∧ x.len = n))]) := by
  refine ACalls.withLo fun hlo => ?_
  refine acalls_of_awp L112 Tryz.func112 rfl (by kernel_rfl) ?_
  obtain ⟨sa, sc, rfl⟩ := hs.form
  simp (disch := omega) only [go_sem, ↓reduceIte ]
  intro b hb
  simp (disch := omega) only [go_sem, ↓reduceIte ]
  refine awp_loop (fun m env H1 nx1 => ∃ i j, BinJ (b + 1) (H.new b #[.int .u32 a, .int .u8 n] 30) (.slice sa es.length sc) (.func (.func 113) #[] #[]) b es a n m env H1 nx1 i j) es.length ⟨0, es.length, ⟨rfl, by omega, by omega, rfl, Nat.le_refl _, Kp.refl _ _ _, fun k x h => by omega, fun k x h hx => by rw [List.getElem?_eq_none h] at hx; cases hx⟩⟩ (fun m env H1 nx1 ⟨i, j, hI⟩ hn => ?_)
  obtain ⟨hm, hij, hj, henv, hx, hk, bef, aft⟩ := hI
  subst henv
  have hc := hk.cell0
  by_cases hlt : i < j
  · obtain ⟨x, hx0⟩ : ∃ x, es[(i + j) / 2]? = some x := ⟨_, List.getElem?_eq_getElem (by omega)⟩
    obtain ⟨g, off, cp, hv, hg⟩ := hs.open (by omega)
    cases hv
    have hle := hs.le
    have hs1 : SlA nx1 H1 4 (.slice (some ⟨g, off, none⟩) es.length sc) es.length (enCells es) own := hs.kp (S := fun _ => False) (by repeat first | exact Kp.refl _ _ _ | refine Kp.dropT ?_ (.inl (by omega)) | refine Kp.put ?_ (.inl (by omega)) | refine Kp.new ?_ (by omega) | refine Kp.put ?_ (.inr (by omega)) | refine Kp.newO ?_ (by omega) | refine Kp.setO ?_ (.inl (by omega)) | refine Kp.setO ?_ (.inr (by omega)) | refine Kp.trans0 ?_ (by assumption) (by omega) | refine Kp.transS ?_ (by assumption) (by omega) (fun b hb hT => by first | omega | (dsimp only at hT ⊢; omega) | (simp only at hT ⊢; omega)))  (by omega) (by simp)
    have hld := en_load hs1 hx0
    unfold Ent.cells at hld
    have hmid : IntKind.i64.wrap (((i : Int) + j) / 2 ^ Int.toNat 1) = (((i + j) / 2 : Nat) : Int) := by
      rw [show (2 ^ Int.toNat 1 : Int) = 2 by decide, wrap_i64 (by omega) (by omega)]
      omega
    simp (disch := omega) only [go_sem, ↓reduceIte , hmid]
    refine awp_draw ord112x5 (by kernel_rfl) ?_
    simp (disch := omega) only [go_sem, ↓reduceIte , ord112x5, hld, hc]
    refine (sfindC_c x a n _ _).mono fun v H2 nx2 _ ⟨hv, hx2, hk2⟩ => ?_
    subst hv
    have hrng := pxCmp_rng x.addr x.len a n
    by_cases hneg : pxCmpI x.addr x.len a n < 0
    · have hl1 := (pxCmp_neg _ _ _ _).1 hneg
      simp (disch := omega) only [go_sem, ↓reduceIte , hneg]
      refine ⟨dkeep_kp hk2, j - ((i + j) / 2 + 1), by omega, (i + j) / 2 + 1, j, ⟨rfl, by omega, hj, rfl, by omega, (by repeat first | exact Kp.refl _ _ _ | refine Kp.dropT ?_ (.inl (by omega)) | refine Kp.put ?_ (.inl (by omega)) | refine Kp.new ?_ (by omega) | refine Kp.put ?_ (.inr (by omega)) | refine Kp.newO ?_ (by omega) | refine Kp.setO ?_ (.inl (by omega)) | refine Kp.setO ?_ (.inr (by omega)) | refine Kp.trans0 ?_ (by assumption) (by omega) | refine Kp.transS ?_ (by assumption) (by omega) (fun b hb hT => by first | omega | (dsimp only at hT ⊢; omega) | (simp only at hT ⊢; omega))) , fun k y hk0 hy => ?_, aft⟩⟩
      rcases Nat.lt_or_ge k ((i + j) / 2) with h | h
      · have := sorted_lt hso hy hx0 h
        unfold ltP at this hl1 ⊢
        omega
      · have e : k = (i + j) / 2 := by omega
        subst e
        rw [hx0] at hy
        cases hy
        exact hl1
    · have hl1 : ¬ ltP x.addr x.len a n := fun h => hneg ((pxCmp_neg _ _ _ _).2 h)
      simp (disch := omega) only [go_sem, ↓reduceIte , hneg]
      refine ⟨dkeep_kp hk2, (i + j) / 2 - i, by omega, i, (i + j) / 2, ⟨rfl, by omega, by omega, rfl, by omega, (by repeat first | exact Kp.refl _ _ _ | refine Kp.dropT ?_ (.inl (by omega)) | refine Kp.put ?_ (.inl (by omega)) | refine Kp.new ?_ (by omega) | refine Kp.put ?_ (.inr (by omega)) | refine Kp.newO ?_ (by omega) | refine Kp.setO ?_ (.inl (by omega)) | refine Kp.setO ?_ (.inr (by omega)) | refine Kp.trans0 ?_ (by assumption) (by omega) | refine Kp.transS ?_ (by assumption) (by omega) (fun b hb hT => by first | omega | (dsimp only at hT ⊢; omega) | (simp only at hT ⊢; omega))) , bef, fun k y hk0 hy => ?_⟩⟩
      rcases Nat.lt_or_ge ((i + j) / 2) k with h | h
      · have := sorted_lt hso hx0 hy h
        unfold ltP at this hl1 ⊢
        omega
      · have e : k = (i + j) / 2 := by omega
        subst e
        rw [hx0] at hy
        cases hy
        exact hl1
  · obtain rfl : i = j := by omega
    simp (disch := omega) only [go_sem, ↓reduceIte ]
    refine awp_draw ord112x8 (by kernel_rfl) ?_
    by_cases hil : i < es.length
    · obtain ⟨x, hx0⟩ : ∃ x, es[i]? = some x := ⟨_, List.getElem?_eq_getElem hil⟩
      obtain ⟨g, off, cp, hv, hg⟩ := hs.open (by omega)
      cases hv
      have hle := hs.le
      have hs1 : SlA nx1 H1 4 (.slice (some ⟨g, off, none⟩) es.length sc) es.length (enCells es) own := hs.kp (S := fun _ => False) (by repeat first | exact Kp.refl _ _ _ | refine Kp.dropT ?_ (.inl (by omega)) | refine Kp.put ?_ (.inl (by omega)) | refine Kp.new ?_ (by omega) | refine Kp.put ?_ (.inr (by omega)) | refine Kp.newO ?_ (by omega) | refine Kp.setO ?_ (.inl (by omega)) | refine Kp.setO ?_ (.inr (by omega)) | refine Kp.trans0 ?_ (by assumption) (by omega) | refine Kp.transS ?_ (by assumption) (by omega) (fun b hb hT => by first | omega | (dsimp only at hT ⊢; omega) | (simp only at hT ⊢; omega)))  (by omega) (by simp)
      have hld := en_load hs1 hx0
      unfold Ent.cells at hld
      simp (disch := omega) only [go_sem, ↓reduceIte , ord112x8, hld, hc]
      refine (sfindC_c x a n _ _).mono fun v H2 nx2 _ ⟨hv, hx2, hk2⟩ => ?_
      subst hv
      by_cases hz : pxCmpI x.addr x.len a n = 0
      · have hz2 := (pxCmp_zero _ _ _ _).1 hz
        simp (disch := omega) only [go_sem, ↓reduceIte , hz]
        refine ⟨dkeep_kp hk2, by omega, (by repeat first | exact Kp.refl _ _ _ | refine Kp.dropT ?_ (.inl (by omega)) | refine Kp.put ?_ (.inl (by omega)) | refine Kp.new ?_ (by omega) | refine Kp.put ?_ (.inr (by omega)) | refine Kp.newO ?_ (by omega) | refine Kp.setO ?_ (.inl (by omega)) | refine Kp.setO ?_ (.inr (by omega)) | refine Kp.trans0 ?_ (by assumption) (by omega) | refine Kp.transS ?_ (by assumption) (by omega) (fun b hb hT => by first | omega | (dsimp only at hT ⊢; omega) | (simp only at hT ⊢; omega))) , i, ⟨by omega, bef, aft⟩, ?_⟩
        rw [decide_eq_true (show ∃ x, es[i]? = some x ∧ x.addr = a ∧ x.len = n from ⟨x, hx0, hz2.1, hz2.2⟩)]
      · have hz2 : ¬ (x.addr = a ∧ x.len = n) := fun h => hz ((pxCmp_zero _ _ _ _).2 h)
        simp (disch := omega) only [go_sem, ↓reduceIte , hz]
        refine ⟨dkeep_kp hk2, by omega, (by repeat first | exact Kp.refl _ _ _ | refine Kp.dropT ?_ (.inl (by omega)) | refine Kp.put ?_ (.inl (by omega)) | refine Kp.new ?_ (by omega) | refine Kp.put ?_ (.inr (by omega)) | refine Kp.newO ?_ (by omega) | refine Kp.setO ?_ (.inl (by omega)) | refine Kp.setO ?_ (.inr (by omega)) | refine Kp.trans0 ?_ (by assumption) (by omega) | refine Kp.transS ?_ (by assumption) (by omega) (fun b hb hT => by first | omega | (dsimp only at hT ⊢; omega) | (simp only at hT ⊢; omega))) , i, ⟨by omega, bef, aft⟩, ?_⟩
        rw [decide_eq_false (show ¬ ∃ x, es[i]? = some x ∧ x.addr = a ∧ x.len = n from fun ⟨y, hy, h1, h2⟩ => by rw [hx0] at hy; cases hy; exact hz2 ⟨h1, h2⟩)]
    · simp (disch := omega) only [go_sem, ↓reduceIte , ord112x8]
      refine ⟨by omega, (by repeat first | exact Kp.refl _ _ _ | refine Kp.dropT ?_ (.inl (by omega)) | refine Kp.put ?_ (.inl (by omega)) | refine Kp.new ?_ (by omega) | refine Kp.put ?_ (.inr (by omega)) | refine Kp.newO ?_ (by omega) | refine Kp.setO ?_ (.inl (by omega)) | refine Kp.setO ?_ (.inr (by omega)) | refine Kp.trans0 ?_ (by assumption) (by omega) | refine Kp.transS ?_ (by assumption) (by omega) (fun b hb hT => by first | omega | (dsimp only at hT ⊢; omega) | (simp only at hT ⊢; omega))) , i, ⟨by omega, bef, aft⟩, ?_⟩
      rw [decide_eq_false (show ¬ ∃ x, es[i]? = some x ∧ x.addr = a ∧ x.len = n from fun ⟨y, hy, _⟩ => by rw [List.getElem?_eq_none (by omega)] at hy; cases hy)]

def hasP (es : List Ent) (a n : Int) (i : Nat) : Bool := decide (∃ x, es[i]? = some x ∧ x.addr = a ∧ x.len = n)
theorem sfind_c {lo : Nat} {q : Nat} {es : List Ent} {own : Nat} {H : AH} {nx : Nat} (hq : SouA lo nx H q es own) (hl : es.length ≤ 1000000) (a n : Int) : ACalls Tryz.prog lo 79 #[.pointer (some ⟨q, 0, none⟩), .agg #[.int .u32 a, .int .u8 n]] H nx (fun v H' nx' => nx ≤ nx' ∧ Kp (fun _ => False) nx H H' ∧ ∃ i : Nat, PlP es a n i ∧ v = .tuple #[.int .i64 i, .bool (hasP es a n i)]) := by
  refine ACalls.withLo fun hlo => ?_
  refine acalls_of_awp L79 Tryz.func79 rfl (by kernel_rfl) ?_
  have hlt := hq.lt
  obtain ⟨v, hv, hs⟩ := hq.q
  simp (disch := omega) only [go_sem, ↓reduceIte ]
  intro b hb
  simp (disch := omega) only [go_sem, ↓reduceIte ]
  refine awp_draw ord79x1 (by kernel_rfl) ?_
  simp (disch := omega) only [go_sem, ↓reduceIte , ord79x1, hv]
  refine (binS_c (hs.new hb) hq.sorted hl a n).mono fun v H1 nx1 _ ⟨hx, hk, i, hi, hv⟩ => ?_
  subst hv
  simp (disch := omega) only [go_sem, ↓reduceIte ]
  refine ⟨dkeep_last (by kernel_rfl), by omega, (by repeat first | exact Kp.refl _ _ _ | refine Kp.dropT ?_ (.inl (by omega)) | refine Kp.put ?_ (.inl (by omega)) | refine Kp.new ?_ (by omega) | refine Kp.put ?_ (.inr (by omega)) | refine Kp.newO ?_ (by omega) | refine Kp.setO ?_ (.inl (by omega)) | refine Kp.setO ?_ (.inr (by omega)) | refine Kp.trans0 ?_ (by assumption) (by omega) | refine Kp.transS ?_ (by assumption) (by omega) (fun b hb hT => by first | omega | (dsimp only at hT ⊢; omega) | (simp only at hT ⊢; omega))) , i, hi, rfl⟩

/-- A prefix's mark. -/
def markR (es : List Ent) (a n : Int) (s m : Int) (ok : Bool) : Prop :=
  (ok = true ∧ ∃ x ∈ es, x.addr = a ∧ x.len = n ∧ x.seq = s ∧ x.metric = m) ∨ (ok = false ∧ s = 0 ∧ m = 0 ∧ ∀ x ∈ es, ¬ (x.addr = a ∧ x.len = n))
theorem has_none {es : List Ent} (hs : es.Pairwise (fun x y => ltP x.addr x.len y.addr y.len)) {a n : Int} {i : Nat} (hp : PlP es a n i) (h : hasP es a n i = false) : ∀ x ∈ es, ¬ (x.addr = a ∧ x.len = n) := by
  intro x hx ⟨h1, h2⟩
  obtain ⟨j, hj, rfl⟩ := List.getElem_of_mem hx
  have hj0 : es[j]? = some es[j] := List.getElem?_eq_getElem hj
  rcases Nat.lt_trichotomy j i with hlt | rfl | hlt
  · have := hp.bef j _ hlt hj0
    unfold ltP at this
    omega
  · unfold hasP at h
    rw [decide_eq_false_iff_not] at h
    exact h ⟨_, hj0, h1, h2⟩
  · have hii : es[i]? = some es[i] := List.getElem?_eq_getElem (by omega)
    have h3 := hp.aft i _ (Nat.le_refl _) hii
    have h4 := sorted_lt hs hii hj0 hlt
    unfold ltP at h3 h4
    omega

theorem smark_c {lo : Nat} {q : Nat} {es : List Ent} {own : Nat} {H : AH} {nx : Nat} (hq : SouA lo nx H q es own) (hl : es.length ≤ 1000000) (a n : Int) : ACalls Tryz.prog lo 60 #[.pointer (some ⟨q, 0, none⟩), .agg #[.int .u32 a, .int .u8 n]] H nx (fun v H' nx' => nx ≤ nx' ∧ Kp (fun _ => False) nx H H' ∧ ∃ s m ok, v = .tuple #[.agg #[.int .u16 s, .int .u16 m], .bool ok] ∧ markR es a n s m ok) := by
  refine ACalls.withLo fun hlo => ?_
  refine acalls_of_awp L60 Tryz.func60 rfl (by kernel_rfl) ?_
  have hlt := hq.lt
  simp (disch := omega) only [go_sem, ↓reduceIte ]
  intro b hb
  simp (disch := omega) only [go_sem, ↓reduceIte ]
  intro c hc
  simp (disch := omega) only [go_sem, ↓reduceIte ]
  have hq1 : SouA lo (c + 1) ((H.new b #[.int .u32 a, .int .u8 n] 30).new c #[.int .u16 0, .int .u16 0] 52) q es own := hq.kp (S := fun _ => False) (by repeat first | exact Kp.refl _ _ _ | refine Kp.dropT ?_ (.inl (by omega)) | refine Kp.put ?_ (.inl (by omega)) | refine Kp.new ?_ (by omega) | refine Kp.put ?_ (.inr (by omega)) | refine Kp.newO ?_ (by omega) | refine Kp.setO ?_ (.inl (by omega)) | refine Kp.setO ?_ (.inr (by omega)) | refine Kp.trans0 ?_ (by assumption) (by omega) | refine Kp.transS ?_ (by assumption) (by omega) (fun b hb hT => by first | omega | (dsimp only at hT ⊢; omega) | (simp only at hT ⊢; omega)))  (by omega) (by simp) (by simp)
  refine (sfind_c hq1 hl a n).mono fun v H1 nx1 _ ⟨hx, hk, i, hi, hv⟩ => ?_
  subst hv
  have hc1 := hk.cell0
  cases hb : hasP es a n i with
  | false =>
    simp (disch := omega) only [go_sem, ↓reduceIte , hc1]
    exact ⟨by omega, (by repeat first | exact Kp.refl _ _ _ | refine Kp.dropT ?_ (.inl (by omega)) | refine Kp.put ?_ (.inl (by omega)) | refine Kp.new ?_ (by omega) | refine Kp.put ?_ (.inr (by omega)) | refine Kp.newO ?_ (by omega) | refine Kp.setO ?_ (.inl (by omega)) | refine Kp.setO ?_ (.inr (by omega)) | refine Kp.trans0 ?_ (by assumption) (by omega) | refine Kp.transS ?_ (by assumption) (by omega) (fun b hb hT => by first | omega | (dsimp only at hT ⊢; omega) | (simp only at hT ⊢; omega))) , 0, 0, false, rfl, .inr ⟨rfl, rfl, rfl, has_none hq.sorted hi hb⟩⟩
  | true =>
    unfold hasP at hb
    rw [decide_eq_true_iff] at hb
    obtain ⟨x, hx0, h1, h2⟩ := hb
    have hil := (List.getElem?_eq_some_iff.1 hx0).1
    obtain ⟨v, hv, hs⟩ := hq.q
    obtain ⟨g, off, cp, rfl, hg⟩ := hs.open (by omega)
    have hle := hs.le
    have y2 := en_cells hs hx0 2 (by omega)
    have y3 := en_cells hs hx0 3 (by omega)
    simp only [Ent.cells, List.getElem?_cons_zero, List.getElem?_cons_succ] at y2 y3
    simp (disch := omega) only [go_sem, ↓reduceIte , hc1, hv, y2, y3]
    exact ⟨by omega, (by repeat first | exact Kp.refl _ _ _ | refine Kp.dropT ?_ (.inl (by omega)) | refine Kp.put ?_ (.inl (by omega)) | refine Kp.new ?_ (by omega) | refine Kp.put ?_ (.inr (by omega)) | refine Kp.newO ?_ (by omega) | refine Kp.setO ?_ (.inl (by omega)) | refine Kp.setO ?_ (.inr (by omega)) | refine Kp.trans0 ?_ (by assumption) (by omega) | refine Kp.transS ?_ (by assumption) (by omega) (fun b hb hT => by first | omega | (dsimp only at hT ⊢; omega) | (simp only at hT ⊢; omega))) , x.seq, x.metric, true, rfl, .inl ⟨rfl, x, List.mem_of_getElem? hx0, h1, h2, rfl, rfl⟩⟩

/-- May a neighbor that tells such a mark be a way. -/
def feasR (es : List Ent) (a n s m : Int) : Bool := decide (m = 65535) || es.all fun x => !(decide (x.addr = a) && decide (x.len = n)) || nearI s m x.seq x.metric
theorem sfeas_c {lo : Nat} {q : Nat} {es : List Ent} {own : Nat} {H : AH} {nx : Nat} (hq : SouA lo nx H q es own) (hl : es.length ≤ 1000000) (a n s m : Int) : ACalls Tryz.prog lo 90 #[.pointer (some ⟨q, 0, none⟩), .agg #[.int .u32 a, .int .u8 n], .agg #[.int .u16 s, .int .u16 m]] H nx (fun v H' nx' => v = .bool (feasR es a n s m) ∧ nx ≤ nx' ∧ Kp (fun _ => False) nx H H') := by
  refine ACalls.withLo fun hlo => ?_
  refine acalls_of_awp L90 Tryz.func90 rfl (by kernel_rfl) ?_
  have hlt := hq.lt
  simp (disch := omega) only [go_sem, ↓reduceIte ]
  intro b hb
  simp (disch := omega) only [go_sem, ↓reduceIte ]
  intro c hc
  simp (disch := omega) only [go_sem, ↓reduceIte ]
  refine (smark_c (hq.kp (S := fun _ => False) (nx' := c + 1) (H' := (H.new b #[.int .u32 a, .int .u8 n] 30).new c #[.int .u16 s, .int .u16 m] 52) (by repeat first | exact Kp.refl _ _ _ | refine Kp.dropT ?_ (.inl (by omega)) | refine Kp.put ?_ (.inl (by omega)) | refine Kp.new ?_ (by omega) | refine Kp.put ?_ (.inr (by omega)) | refine Kp.newO ?_ (by omega) | refine Kp.setO ?_ (.inl (by omega)) | refine Kp.setO ?_ (.inr (by omega)) | refine Kp.trans0 ?_ (by assumption) (by omega) | refine Kp.transS ?_ (by assumption) (by omega) (fun b hb hT => by first | omega | (dsimp only at hT ⊢; omega) | (simp only at hT ⊢; omega)))  (by omega) (by simp) (by simp)) hl a n).mono fun v H1 nx1 _ ⟨hx, hk, s', m', ok, hv, hmk⟩ => ?_
  subst hv
  have hc1 := hk.cell0
  simp (disch := omega) only [go_sem, ↓reduceIte ]
  intro d hd
  simp (disch := omega) only [go_sem, ↓reduceIte , hc1]
  by_cases hm : m = 65535
  · simp (disch := omega) only [go_sem, ↓reduceIte , hm]
    refine ⟨?_, by omega, (by repeat first | exact Kp.refl _ _ _ | refine Kp.dropT ?_ (.inl (by omega)) | refine Kp.put ?_ (.inl (by omega)) | refine Kp.new ?_ (by omega) | refine Kp.put ?_ (.inr (by omega)) | refine Kp.newO ?_ (by omega) | refine Kp.setO ?_ (.inl (by omega)) | refine Kp.setO ?_ (.inr (by omega)) | refine Kp.trans0 ?_ (by assumption) (by omega) | refine Kp.transS ?_ (by assumption) (by omega) (fun b hb hT => by first | omega | (dsimp only at hT ⊢; omega) | (simp only at hT ⊢; omega))) ⟩
    simp [feasR]
  · rcases hmk with ⟨rfl, x, hx0, h1, h2, rfl, rfl⟩ | ⟨rfl, rfl, rfl, hno⟩
    · simp (disch := omega) only [go_sem, ↓reduceIte , hm, hc1]
      refine (snearer_c s m x.seq x.metric _ _).mono fun v H2 nx2 _ ⟨hv, hx2, hk2⟩ => ?_
      subst hv
      simp (disch := omega) only [go_sem, ↓reduceIte ]
      refine ⟨?_, by omega, (by repeat first | exact Kp.refl _ _ _ | refine Kp.dropT ?_ (.inl (by omega)) | refine Kp.put ?_ (.inl (by omega)) | refine Kp.new ?_ (by omega) | refine Kp.put ?_ (.inr (by omega)) | refine Kp.newO ?_ (by omega) | refine Kp.setO ?_ (.inl (by omega)) | refine Kp.setO ?_ (.inr (by omega)) | refine Kp.trans0 ?_ (by assumption) (by omega) | refine Kp.transS ?_ (by assumption) (by omega) (fun b hb hT => by first | omega | (dsimp only at hT ⊢; omega) | (simp only at hT ⊢; omega))) ⟩
      have : feasR es a n s m = nearI s m x.seq x.metric := by
        unfold feasR
        rw [decide_eq_false hm, Bool.false_or]
        cases hn : nearI s m x.seq x.metric with
        | false =>
          rw [List.all_eq_false]
          exact ⟨x, hx0, by simp [h1, h2, hn]⟩
        | true =>
          rw [List.all_eq_true]
          intro y hy
          by_cases hyp : y.addr = a ∧ y.len = n
          · have hyx : y = x := by
              obtain ⟨i, hi, rfl⟩ := List.getElem_of_mem hx0
              obtain ⟨j, hj, rfl⟩ := List.getElem_of_mem hy
              rcases Nat.lt_trichotomy i j with hlt2 | rfl | hlt2
              · have := sorted_lt hq.sorted (List.getElem?_eq_getElem hi) (List.getElem?_eq_getElem hj) hlt2
                unfold ltP at this
                omega
              · rfl
              · have := sorted_lt hq.sorted (List.getElem?_eq_getElem hj) (List.getElem?_eq_getElem hi) hlt2
                unfold ltP at this
                omega
            subst hyx
            simp [hn]
          · have : (decide (y.addr = a) && decide (y.len = n)) = false := by
              simp only [Bool.and_eq_false_iff, decide_eq_false_iff_not]
              omega
            simp only [this, Bool.not_false, Bool.true_or]
      rw [this]
    · simp (disch := omega) only [go_sem, ↓reduceIte , hm, hc1]
      refine ⟨?_, by omega, (by repeat first | exact Kp.refl _ _ _ | refine Kp.dropT ?_ (.inl (by omega)) | refine Kp.put ?_ (.inl (by omega)) | refine Kp.new ?_ (by omega) | refine Kp.put ?_ (.inr (by omega)) | refine Kp.newO ?_ (by omega) | refine Kp.setO ?_ (.inl (by omega)) | refine Kp.setO ?_ (.inr (by omega)) | refine Kp.trans0 ?_ (by assumption) (by omega) | refine Kp.transS ?_ (by assumption) (by omega) (fun b hb hT => by first | omega | (dsimp only at hT ⊢; omega) | (simp only at hT ⊢; omega))) ⟩
      have : feasR es a n s m = true := by
        unfold feasR
        rw [decide_eq_false hm, Bool.false_or, List.all_eq_true]
        intro y hy
        have h3 := hno y hy
        have : (decide (y.addr = a) && decide (y.len = n)) = false := by
          simp only [Bool.and_eq_false_iff, decide_eq_false_iff_not]
          omega
        simp only [this, Bool.not_false, Bool.true_or]
      rw [this]
end Go.Proofs.YtngnbafididkcaaGreat
end
