/- Routes, in our own logic: what neighbors told; New, find, IndexFunc. -/
import Derived.Test.YtgopmklcggoliaaR1
namespace Go.Proofs.Ytgopmklcggoliaa
open Go.RowKit
set_option linter.unusedSimpArgs false

/-- What was told, as it lies. -/
structure Tld where
  addr : Int
  len : Int
  who : Int
  node : Int
  seq : Int
  metric : Int
  til : Int
def Tld.cells (t : Tld) : List Value := [.int .u32 t.addr, .int .u8 t.len, .int .i64 t.who, .int .i64 t.node, .int .u16 t.seq, .int .u16 t.metric, .int .u64 t.til]
def tdCells (l : List Tld) : List Value := l.flatMap Tld.cells
theorem td_seven (t : Tld) : t.cells.length = 7 := rfl
theorem td_load {nx : Nat} {H : AH} {g off c n own : Nat} {l : List Tld} (hs : SlA nx H 7 (.slice (some ⟨g, off, none⟩) n c) n (tdCells l) own) {i : Nat} {x : Tld} (hi : l[i]? = some x) : loadN H g (off + i * 7) 7 = some x.cells := flat_load td_seven hs hi
theorem tdCells_one {l : List Tld} : ∀ v ∈ tdCells l, v.oneCell' = true := by
  intro v hv
  simp only [tdCells, List.mem_flatMap] at hv
  obtain ⟨c, _, hv⟩ := hv
  simp only [Tld.cells, List.mem_cons, List.not_mem_nil, or_false] at hv
  rcases hv with rfl | rfl | rfl | rfl | rfl | rfl | rfl <;> rfl
theorem tdCells_append (a b : List Tld) : tdCells (a ++ b) = tdCells a ++ tdCells b := by simp [tdCells]

/-- Routes in block p. -/
structure RouA (lo nx : Nat) (H : AH) (p : Nat) (ts : List Tld) (own : Nat) : Prop where
  ge : lo ≤ p
  lt : p < nx
  q : ∃ v, H.c p 0 = some v ∧ SlA nx H 7 v ts.length (tdCells ts) own
  ow : own = 0 ∨ lo < own
  ne : own ≠ p + 1

theorem RouA.kp {lo nx : Nat} {H : AH} {p : Nat} {ts : List Tld} {own : Nat} (h : RouA lo nx H p ts own) {S : Nat → Prop} {nx' : Nat} {H' : AH} (hk : Kp S nx H H') (hn : nx ≤ nx') (h1 : ¬ S p) (h2 : ∀ b, b + 1 = own → ¬ S b) : RouA lo nx' H' p ts own := by
  obtain ⟨v, hv, hs⟩ := h.q
  have hlt := h.lt
  have hp := hk p hlt h1
  exact ⟨h.ge, by omega, ⟨v, by rw [hp.1]; exact hv, hs.kp hk hn h2⟩, h.ow, h.ne⟩

theorem rnew_c {lo : Nat} {H : AH} {nx : Nat} : ACalls Try.prog lo 8 #[] H nx (fun v H' nx' => ∃ p, v = .pointer (some ⟨p, 0, none⟩) ∧ nx ≤ p ∧ RouA lo nx' H' p [] 0 ∧ nx ≤ nx' ∧ Kp (fun _ => False) nx H H') := by
  refine ACalls.withLo fun hlo => ?_
  refine acalls_of_awp L8 Try.func8 rfl (by kernel_rfl) ?_
  simp (disch := omega) only [go_sem, ↓reduceIte ]
  intro p hp
  simp (disch := omega) only [go_sem, ↓reduceIte ]
  exact ⟨p, rfl, hp, ⟨by omega, by omega, ⟨_, by simp (disch := omega) only [go_sem, ↓reduceIte ], SlA.nil _ _ _⟩, .inl rfl, by omega⟩, by omega, (by repeat first | exact Kp.refl _ _ _ | refine Kp.dropT ?_ (.inl (by omega)) | refine Kp.put ?_ (.inl (by omega)) | refine Kp.new ?_ (by omega) | refine Kp.put ?_ (.inr (by omega)) | refine Kp.trans0 ?_ (by assumption) (by omega) | refine Kp.transS ?_ (by assumption) (by omega) (fun b hb hT => by first | omega | (dsimp only at hT ⊢; omega) | (simp only at hT ⊢; omega))) ⟩

def hitC (a n b : Int) (t : Tld) : Bool := decide (t.addr = a) && decide (t.len = n) && decide (t.who = b)

theorem rfindC_c {lo : Nat} {H : AH} {nx tp tb : Nat} {a n b : Int} (ht : tp < nx) (hb : tb < nx) (c0 : H.c tp 0 = some (.int .u32 a)) (c1 : H.c tp 1 = some (.int .u8 n)) (c2 : H.c tb 0 = some (.int .i64 b)) (t : Tld) :
    ACalls Try.prog lo 60 #[.agg #[.int .u32 t.addr, .int .u8 t.len, .int .i64 t.who, .int .i64 t.node, .int .u16 t.seq, .int .u16 t.metric, .int .u64 t.til], .pointer (some ⟨tp, 0, none⟩), .pointer (some ⟨tb, 0, none⟩)] H nx (fun v H' nx' => v = .bool (hitC a n b t) ∧ nx ≤ nx' ∧ Kp (fun _ => False) nx H H') := by
  refine ACalls.withLo fun hlo => ?_
  refine acalls_of_awp L60 Try.func60 rfl (by kernel_rfl) ?_
  simp (disch := omega) only [go_sem, ↓reduceIte ]
  intro d hd
  by_cases h1 : t.addr = a
  · by_cases h2 : t.len = n
    · simp (disch := omega) only [go_sem, ↓reduceIte , c0, c1, c2, h1, h2]
      refine ⟨?_, by omega, (by repeat first | exact Kp.refl _ _ _ | refine Kp.dropT ?_ (.inl (by omega)) | refine Kp.put ?_ (.inl (by omega)) | refine Kp.new ?_ (by omega) | refine Kp.put ?_ (.inr (by omega)) | refine Kp.trans0 ?_ (by assumption) (by omega) | refine Kp.transS ?_ (by assumption) (by omega) (fun b hb hT => by first | omega | (dsimp only at hT ⊢; omega) | (simp only at hT ⊢; omega))) ⟩
      simp [hitC, h1, h2]
    · simp (disch := omega) only [go_sem, ↓reduceIte , c0, c1, c2, h1, h2]
      refine ⟨?_, by omega, (by repeat first | exact Kp.refl _ _ _ | refine Kp.dropT ?_ (.inl (by omega)) | refine Kp.put ?_ (.inl (by omega)) | refine Kp.new ?_ (by omega) | refine Kp.put ?_ (.inr (by omega)) | refine Kp.trans0 ?_ (by assumption) (by omega) | refine Kp.transS ?_ (by assumption) (by omega) (fun b hb hT => by first | omega | (dsimp only at hT ⊢; omega) | (simp only at hT ⊢; omega))) ⟩
      simp [hitC, h1, h2]
  · simp (disch := omega) only [go_sem, ↓reduceIte , c0, c1, c2, h1]
    refine ⟨?_, by omega, (by repeat first | exact Kp.refl _ _ _ | refine Kp.dropT ?_ (.inl (by omega)) | refine Kp.put ?_ (.inl (by omega)) | refine Kp.new ?_ (by omega) | refine Kp.put ?_ (.inr (by omega)) | refine Kp.trans0 ?_ (by assumption) (by omega) | refine Kp.transS ?_ (by assumption) (by omega) (fun b hb hT => by first | omega | (dsimp only at hT ⊢; omega) | (simp only at hT ⊢; omega))) ⟩
    simp [hitC, h1]

/-- Which one is the first. -/
def idxR (pred : Tld → Bool) (ts : List Tld) (v : Value) : Prop :=
  (∃ (i : Nat) (t : Tld), ts[i]? = some t ∧ pred t = true ∧ v = .int .i64 i ∧ ∀ j t', j < i → ts[j]? = some t' → pred t' = false) ∨ ((∀ t ∈ ts, pred t = false) ∧ v = .int .i64 (-1))

structure IdxI (nx0 : Nat) (H0 : AH) (pred : Tld → Bool) (ts : List Tld) (s f : Value) (m : Nat) (env : Env) (H : AH) (nx j : Nat) : Prop where
  hm : m = ts.length - j
  hj : j ≤ ts.length
  henv : env = [(0, s), (1, f), (7, .int .i64 ts.length), (8, .int .i64 j)]
  hx : nx0 ≤ nx
  hk : Kp (fun _ => False) nx0 H0 H
  hp : ∀ (i : Nat) (t : Tld), i < j → ts[i]? = some t → pred t = false

theorem idx_c {lo : Nat} {H : AH} {nx fv : Nat} {cap : List Value} {pred : Tld → Bool} {s : Value} {ts : List Tld} {own : Nat} (hs : SlA nx H 7 s ts.length (tdCells ts) own) (hf : fnOk Try.prog fv = true)
    (hp : ∀ t ∈ ts, ∀ (H1 : AH) (nx1 : Nat), nx ≤ nx1 → Kp (fun _ => False) nx H H1 → ACalls Try.prog lo fv (Value.agg #[.int .u32 t.addr, .int .u8 t.len, .int .i64 t.who, .int .i64 t.node, .int .u16 t.seq, .int .u16 t.metric, .int .u64 t.til] :: cap).toArray H1 nx1 (fun v H' nx' => v = .bool (pred t) ∧ nx1 ≤ nx' ∧ Kp (fun _ => False) nx1 H1 H')) :
    ACalls Try.prog lo 59 #[s, .func (.func fv) #[] cap.toArray] H nx (fun v H' nx' => idxR pred ts v ∧ nx ≤ nx' ∧ Kp (fun _ => False) nx H H') := by
  refine ACalls.withLo fun hlo => ?_
  refine acalls_of_awp L59 Try.func59 rfl (by kernel_rfl) ?_
  obtain ⟨sa, sc, rfl⟩ := hs.form
  have hmx := hs.maxLen
  simp only [maxLen] at hmx
  simp (disch := omega) only [go_sem, ↓reduceIte ]
  refine awp_loop (fun m env H1 nx1 => ∃ j, IdxI nx H pred ts (.slice sa ts.length sc) (.func (.func fv) #[] cap.toArray) m env H1 nx1 j) ts.length ⟨0, ⟨rfl, by omega, rfl, Nat.le_refl _, Kp.refl _ _ _, fun i t h => by omega⟩⟩ (fun m env H1 nx1 ⟨j, hJ⟩ hn => ?_)
  obtain ⟨hm, hj, henv, hx, hk, hpj⟩ := hJ
  subst henv
  by_cases hjl : j < ts.length
  · obtain ⟨t, hx0⟩ : ∃ t, ts[j]? = some t := ⟨_, List.getElem?_eq_getElem hjl⟩
    obtain ⟨g, off, cp, hv, hg⟩ := hs.open (by omega)
    cases hv
    have hld := td_load (hs.kp hk hx (by simp)) hx0
    unfold Tld.cells at hld
    simp (disch := omega) only [go_sem, ↓reduceIte , hld, hf]
    refine (hp t (List.mem_of_getElem? hx0) H1 nx1 hx hk).mono fun v H2 nx2 _ ⟨hv, hx2, hk2⟩ => ?_
    subst hv
    cases hpt : pred t with
    | true =>
      simp (disch := omega) only [go_sem, ↓reduceIte ]
      exact ⟨.inl ⟨j, t, hx0, hpt, rfl, hpj⟩, by omega, (by repeat first | exact Kp.refl _ _ _ | refine Kp.dropT ?_ (.inl (by omega)) | refine Kp.put ?_ (.inl (by omega)) | refine Kp.new ?_ (by omega) | refine Kp.put ?_ (.inr (by omega)) | refine Kp.trans0 ?_ (by assumption) (by omega) | refine Kp.transS ?_ (by assumption) (by omega) (fun b hb hT => by first | omega | (dsimp only at hT ⊢; omega) | (simp only at hT ⊢; omega))) ⟩
    | false =>
      simp (disch := omega) only [go_sem, ↓reduceIte ]
      refine ⟨ts.length - (j + 1), by omega, j + 1, ⟨rfl, by omega, rfl, by omega, (by repeat first | exact Kp.refl _ _ _ | refine Kp.dropT ?_ (.inl (by omega)) | refine Kp.put ?_ (.inl (by omega)) | refine Kp.new ?_ (by omega) | refine Kp.put ?_ (.inr (by omega)) | refine Kp.trans0 ?_ (by assumption) (by omega) | refine Kp.transS ?_ (by assumption) (by omega) (fun b hb hT => by first | omega | (dsimp only at hT ⊢; omega) | (simp only at hT ⊢; omega))) , fun i t' hi ht => ?_⟩⟩
      by_cases e : i = j
      · subst e
        rw [hx0] at ht
        cases ht
        exact hpt
      · exact hpj i t' (by omega) ht
  · simp (disch := omega) only [go_sem, ↓reduceIte ]
    refine ⟨.inr ⟨fun t ht => ?_, rfl⟩, hx, hk⟩
    obtain ⟨i, hi, rfl⟩ := List.getElem_of_mem ht
    exact hpj i _ (by omega) (List.getElem?_eq_getElem hi)

theorem rfind_c {lo : Nat} {p : Nat} {ts : List Tld} {own : Nat} {H : AH} {nx : Nat} (hR : RouA lo nx H p ts own) (a n b : Int) :
    ACalls Try.prog lo 42 #[.pointer (some ⟨p, 0, none⟩), .agg #[.int .u32 a, .int .u8 n], .int .i64 b] H nx (fun v H' nx' => idxR (hitC a n b) ts v ∧ nx ≤ nx' ∧ Kp (fun _ => False) nx H H') := by
  refine ACalls.withLo fun hlo => ?_
  refine acalls_of_awp L42 Try.func42 rfl (by kernel_rfl) ?_
  have hlt := hR.lt
  obtain ⟨v, hq, hs⟩ := hR.q
  obtain ⟨sa, sc, rfl⟩ := hs.form
  simp (disch := omega) only [go_sem, ↓reduceIte ]
  intro tp htp
  simp (disch := omega) only [go_sem, ↓reduceIte ]
  intro tb htb
  simp (disch := omega) only [go_sem, ↓reduceIte , hq]
  have hk2 : Kp (fun _ => False) nx H ((H.new tp #[.int .u32 a, .int .u8 n] 39).new tb #[.int .i64 b] 3) := (by repeat first | exact Kp.refl _ _ _ | refine Kp.dropT ?_ (.inl (by omega)) | refine Kp.put ?_ (.inl (by omega)) | refine Kp.new ?_ (by omega) | refine Kp.put ?_ (.inr (by omega)) | refine Kp.trans0 ?_ (by assumption) (by omega) | refine Kp.transS ?_ (by assumption) (by omega) (fun b hb hT => by first | omega | (dsimp only at hT ⊢; omega) | (simp only at hT ⊢; omega))) 
  refine (idx_c (fv := 60) (cap := [.pointer (some ⟨tp, 0, none⟩), .pointer (some ⟨tb, 0, none⟩)]) (pred := hitC a n b) (hs.kp hk2 (nx' := tb + 1) (by omega) (by simp)) (by kernel_rfl) (fun t _ H1 nx1 hn hk1 => ?_)).mono fun v H' nx' _ ⟨hv, hx, hk⟩ => ?_
  · have hc := hk1.cell0
    exact rfindC_c (by omega) (by omega) (by simp (disch := omega) only [go_sem, ↓reduceIte , hc]) (by simp (disch := omega) only [go_sem, ↓reduceIte , hc]) (by simp (disch := omega) only [go_sem, ↓reduceIte , hc]) t
  · have hv1 : v.oneCell' = true := by
      rcases hv with ⟨i, t, _, _, rfl, _⟩ | ⟨_, rfl⟩ <;> rfl
    simp (disch := omega) only [go_sem, ↓reduceIte , hv1]
    exact ⟨hv, by omega, (by repeat first | exact Kp.refl _ _ _ | refine Kp.dropT ?_ (.inl (by omega)) | refine Kp.put ?_ (.inl (by omega)) | refine Kp.new ?_ (by omega) | refine Kp.put ?_ (.inr (by omega)) | refine Kp.trans0 ?_ (by assumption) (by omega) | refine Kp.transS ?_ (by assumption) (by omega) (fun b hb hT => by first | omega | (dsimp only at hT ⊢; omega) | (simp only at hT ⊢; omega))) ⟩
end Go.Proofs.Ytgopmklcggoliaa
