/- What neighbors told, by the letter: find, without. -/
import Derived.Test.YtgopmklcggoliaaT2
namespace Go.Proofs.Ytgopmklcggoliaa
open Go.RowKit
set_option linter.unusedSimpArgs false

theorem td_cells {nx : Nat} {H : AH} {g off c n own : Nat} {l : List Tld} (hs : SlA nx H 7 (.slice (some ⟨g, off, none⟩) n c) n (tdCells l) own) {i : Nat} {x : Tld} (hi : l[i]? = some x) (j : Nat) (hj : j < 7) : H.c g (off + i * 7 + j) = x.cells[j]? := by
  have h5 := flat_get td_seven l i x hi j hj
  rw [show off + i * 7 + j = off + (7 * i + j) by omega]
  obtain ⟨u, hu⟩ : ∃ u, x.cells[j]? = some u := ⟨_, List.getElem?_eq_getElem (by rw [td_seven]; exact hj)⟩
  rw [hu] at h5 ⊢
  exact hs.cells.1 _ _ h5

structure TfI (q t : Nat) (b : Int) (a n : Int) (us : List Tld) (H0 : AH) (nx0 : Nat) (m : Nat) (env : Env) (H : AH) (nx i : Nat) : Prop where
  hm : m = us.length - i
  hi : i ≤ us.length
  henv : env = [(2, .int .i64 b), (3, .pointer (some ⟨q, 0, none⟩)), (4, .pointer (some ⟨t, 0, none⟩)), (7, .int .i64 i)]
  hH : H = H0
  hx : nx = nx0
  hp : ∀ (j : Nat) (u : Tld), j < i → us[j]? = some u → hitC a n b u = false

theorem tfind_c {lo : Nat} {H : AH} {nx : Nat} {s : Value} {us : List Tld} {own : Nat} (hs : SlA nx H 7 s us.length (tdCells us) own) (hl : us.length ≤ 1000000) (now a n b : Int) :
    ACalls Try.prog lo 11 #[.agg #[s, .int .u64 now], .agg #[.int .u32 a, .int .u8 n], .int .i64 b] H nx (fun v H' nx' => idxR (hitC a n b) us v ∧ nx ≤ nx' ∧ Kp (fun _ => False) nx H H') := by
  refine ACalls.withLo fun hlo => ?_
  refine acalls_of_awp L11 Try.func11 rfl (by kernel_rfl) ?_
  obtain ⟨sa, sc, rfl⟩ := hs.form
  simp (disch := omega) only [go_sem, ↓reduceIte ]
  intro q hq
  simp (disch := omega) only [go_sem, ↓reduceIte ]
  intro t ht
  simp (disch := omega) only [go_sem, ↓reduceIte ]
  refine awp_loop (fun m env H1 nx1 => ∃ i, TfI q t b a n us ((H.new q #[.slice sa us.length sc, .int .u64 now] 29).new t #[.int .u32 a, .int .u8 n] 39) (t + 1) m env H1 nx1 i) us.length ⟨0, ⟨rfl, by omega, rfl, rfl, rfl, fun j u hj => by omega⟩⟩ (fun m env H1 nx1 ⟨i, hI⟩ hn => ?_)
  obtain ⟨hm, hi, henv, hH, hx, hp⟩ := hI
  subst henv; subst hH; subst hx
  by_cases hil : i < us.length
  · obtain ⟨x, hx0⟩ : ∃ x, us[i]? = some x := ⟨_, List.getElem?_eq_getElem hil⟩
    obtain ⟨g, off, cp, hv, hg⟩ := hs.open (by omega)
    cases hv
    have hle := hs.le
    have x0 := td_cells hs hx0 0 (by omega)
    have x1 := td_cells hs hx0 1 (by omega)
    have x2 := td_cells hs hx0 2 (by omega)
    rw [Nat.add_zero] at x0
    simp only [Tld.cells, List.getElem?_cons_zero, List.getElem?_cons_succ] at x0 x1 x2
    simp (disch := omega) only [go_sem, ↓reduceIte ]
    refine awp_draw ord11x4 (by kernel_rfl) ?_
    cases hh : hitC a n b x with
    | true =>
      have h3 := hh
      simp only [hitC, Bool.and_eq_true, decide_eq_true_eq] at h3
      obtain ⟨⟨e1, e2⟩, e3⟩ := h3
      simp (disch := omega) only [go_sem, ↓reduceIte , ord11x4, x0, x1, x2, e1, e2, e3]
      exact ⟨.inl ⟨i, x, hx0, hh, rfl, hp⟩, by omega, (by repeat first | exact Kp.refl _ _ _ | refine Kp.dropT ?_ (.inl (by omega)) | refine Kp.put ?_ (.inl (by omega)) | refine Kp.new ?_ (by omega) | refine Kp.put ?_ (.inr (by omega)) | refine Kp.trans0 ?_ (by assumption) (by omega) | refine Kp.transS ?_ (by assumption) (by omega) (fun b hb hT => by first | omega | (dsimp only at hT ⊢; omega) | (simp only at hT ⊢; omega))) ⟩
    | false =>
      have hnext : ∀ (j : Nat) (u : Tld), j < i + 1 → us[j]? = some u → hitC a n b u = false := fun j u hj hu => by
        by_cases e : j = i
        · subst e
          rw [hx0] at hu
          cases hu
          exact hh
        · exact hp j u (by omega) hu
      have hbad : ¬ x.addr = a ∨ (x.addr = a ∧ ¬ x.len = n) ∨ (x.addr = a ∧ x.len = n ∧ ¬ x.who = b) := by
        simp only [hitC, Bool.and_eq_false_iff, decide_eq_false_iff_not] at hh
        omega
      rcases hbad with e1 | ⟨e1, e2⟩ | ⟨e1, e2, e3⟩
      · simp (disch := omega) only [go_sem, ↓reduceIte , ord11x4, x0, x1, x2, e1]
        exact ⟨us.length - (i + 1), by omega, i + 1, ⟨rfl, by omega, rfl, rfl, rfl, hnext⟩⟩
      · simp (disch := omega) only [go_sem, ↓reduceIte , ord11x4, x0, x1, x2, e1, e2]
        exact ⟨us.length - (i + 1), by omega, i + 1, ⟨rfl, by omega, rfl, rfl, rfl, hnext⟩⟩
      · simp (disch := omega) only [go_sem, ↓reduceIte , ord11x4, x0, x1, x2, e1, e2, e3]
        exact ⟨us.length - (i + 1), by omega, i + 1, ⟨rfl, by omega, rfl, rfl, rfl, hnext⟩⟩
  · simp (disch := omega) only [go_sem, ↓reduceIte ]
    refine ⟨.inr ⟨fun u hu => ?_, rfl⟩, by omega, (by repeat first | exact Kp.refl _ _ _ | refine Kp.dropT ?_ (.inl (by omega)) | refine Kp.put ?_ (.inl (by omega)) | refine Kp.new ?_ (by omega) | refine Kp.put ?_ (.inr (by omega)) | refine Kp.trans0 ?_ (by assumption) (by omega) | refine Kp.transS ?_ (by assumption) (by omega) (fun b hb hT => by first | omega | (dsimp only at hT ⊢; omega) | (simp only at hT ⊢; omega))) ⟩
    obtain ⟨j, hj, rfl⟩ := List.getElem_of_mem hu
    exact hp j _ (by omega) (List.getElem?_eq_getElem hj)

def lessI (us : List Tld) (i k : Nat) : List Tld := (us.take k).take i ++ (us.take k).drop (i + 1)
theorem lessI_all (us : List Tld) (i : Nat) : lessI us i us.length = us.take i ++ us.drop (i + 1) := by unfold lessI; rw [List.take_length]
theorem lessI_step {us : List Tld} {i k : Nat} {x : Tld} (h : us[k]? = some x) : lessI us i (k + 1) = if k = i then lessI us i k else lessI us i k ++ [x] := by
  have hk := (List.getElem?_eq_some_iff.1 h).1
  have hlen : (us.take k).length = k := by simp; omega
  unfold lessI
  rw [take_succ_get h]
  generalize us.take k = A at hlen ⊢
  split
  · rename_i e
    subst e
    have a1 : (A ++ [x]).take k = A.take k := List.take_append_of_le_length (by omega)
    have a2 : (A ++ [x]).drop (k + 1) = [] := List.drop_of_length_le (by simp [hlen])
    have a3 : A.drop (k + 1) = [] := List.drop_of_length_le (by omega)
    rw [a1, a2, a3]
  · rename_i e
    rcases Nat.lt_or_ge k i with h1 | h1
    · have a1 : (A ++ [x]).take i = A ++ [x] := List.take_of_length_le (by simp [hlen]; omega)
      have a2 : (A ++ [x]).drop (i + 1) = [] := List.drop_of_length_le (by simp [hlen]; omega)
      have a3 : A.take i = A := List.take_of_length_le (by omega)
      have a4 : A.drop (i + 1) = [] := List.drop_of_length_le (by omega)
      rw [a1, a2, a3, a4]
      simp
    · have a1 : (A ++ [x]).take i = A.take i := List.take_append_of_le_length (by omega)
      have a2 : (A ++ [x]).drop (i + 1) = A.drop (i + 1) ++ [x] := List.drop_append_of_le_length (by omega)
      rw [a1, a2, List.append_assoc]

structure TwI (nx0 : Nat) (H0 : AH) (q r : Nat) (us : List Tld) (i : Nat) (m : Nat) (env : Env) (H : AH) (nx k : Nat) (lv : Value) (own : Nat) : Prop where
  hm : m = us.length - k
  hk : k ≤ us.length
  henv : env = [(1, .int .i64 i), (2, .pointer (some ⟨q, 0, none⟩)), (4, .pointer (some ⟨r, 0, none⟩)), (5, lv), (6, .int .i64 k)]
  hx : nx0 ≤ nx
  hkp : Kp (fun _ => False) nx0 H0 H
  hs : SlA nx H 7 lv (lessI us i k).length (tdCells (lessI us i k)) own
  how : own = 0 ∨ nx0 < own

set_option maxRecDepth 20000 in
theorem twithout_c {lo : Nat} {H : AH} {nx : Nat} {s : Value} {us : List Tld} {own : Nat} (hs : SlA nx H 7 s us.length (tdCells us) own) (hl : us.length ≤ 1000000) (now : Int) (i : Nat) (hi0 : i < us.length) :
    ACalls Try.prog lo 28 #[.agg #[s, .int .u64 now], .int .i64 i] H nx (fun v H' nx' => nx ≤ nx' ∧ Kp (fun _ => False) nx H H' ∧ ∃ s' own', v = .agg #[s', .int .u64 now] ∧ SlA nx' H' 7 s' (us.take i ++ us.drop (i + 1)).length (tdCells (us.take i ++ us.drop (i + 1))) own' ∧ (own' = 0 ∨ nx < own')) := by
  refine ACalls.withLo fun hlo => ?_
  refine acalls_of_awp L28 Try.func28 rfl (by kernel_rfl) ?_
  obtain ⟨g, off, cp, rfl, hg⟩ := hs.open (by omega)
  have hle := hs.le
  simp (disch := omega) only [go_sem, ↓reduceIte ]
  intro q hq
  simp (disch := omega) only [go_sem, ↓reduceIte ]
  intro r hr
  simp (disch := omega) only [go_sem, ↓reduceIte ]
  refine awp_loop (fun m env H1 nx1 => ∃ k lv own', TwI (r + 1) ((H.new q #[.slice (some ⟨g, off, none⟩) us.length cp, .int .u64 now] 29).new r #[.slice none 0 0, .int .u64 0] 29) q r us i m env H1 nx1 k lv own') us.length ⟨0, .slice none 0 0, 0, ⟨rfl, by omega, rfl, Nat.le_refl _, Kp.refl _ _ _, by simp [lessI, tdCells]; exact SlA.nil _ _ _, .inl rfl⟩⟩ (fun m env H1 nx1 ⟨k, lv, own', hI⟩ hn => ?_)
  obtain ⟨hm, hk, henv, hx, hkp, hs1, how⟩ := hI
  subst henv
  have hc := hkp.cell0
  have hone := hs1.one
  by_cases hkl : k < us.length
  · obtain ⟨x, hx0⟩ : ∃ x, us[k]? = some x := ⟨_, List.getElem?_eq_getElem hkl⟩
    have hstep := lessI_step (i := i) hx0
    have hll : (lessI us i k).length ≤ k := by unfold lessI; simp; omega
    have hs0 : SlA nx1 H1 7 (.slice (some ⟨g, off, none⟩) us.length cp) us.length (tdCells us) own := hs.kp (S := fun _ => False) (by repeat first | exact Kp.refl _ _ _ | refine Kp.dropT ?_ (.inl (by omega)) | refine Kp.put ?_ (.inl (by omega)) | refine Kp.new ?_ (by omega) | refine Kp.put ?_ (.inr (by omega)) | refine Kp.trans0 ?_ (by assumption) (by omega) | refine Kp.transS ?_ (by assumption) (by omega) (fun b hb hT => by first | omega | (dsimp only at hT ⊢; omega) | (simp only at hT ⊢; omega)))  (by omega) (by simp)
    have hld := td_load hs0 hx0
    unfold Tld.cells at hld
    by_cases hki : k = i
    · simp (disch := omega) only [go_sem, ↓reduceIte , hc, hone, hki]
      refine ⟨us.length - (k + 1), by omega, k + 1, lv, own', ⟨rfl, by omega, by rw [hki]; rfl, by omega, hkp, ?_, how⟩⟩
      rw [hstep, if_pos hki]
      exact hs1
    · simp (disch := omega) only [go_sem, ↓reduceIte , hc, hone, hki, hld]
      refine buildSQ_all (n := 1) [.agg #[.int .u32 x.addr, .int .u8 x.len, .int .i64 x.who, .int .i64 x.node, .int .u16 x.seq, .int .u16 x.metric, .int .u64 x.til]] sl26 zero43 (by omega) (by omega) rfl (by simp [cells_agg]) fun f hf => ?_
      have hlit : SlA (f + 1) _ 7 (.slice (some ⟨f, 0, none⟩) 1 1) 1 (tdCells [x]) (f + 1) := SlA.ofNew (H := H1) (e := 43) (cs := ([Value.agg #[.int .u32 x.addr, .int .u8 x.len, .int .i64 x.who, .int .i64 x.node, .int .u16 x.seq, .int .u16 x.metric, .int .u64 x.til]].flatMap fun v => v.cells.toList).toArray) rfl (by omega) (by simp [maxLen]) (by simp [cells_agg]) (fun j _ => by simp [cells_agg, tdCells, Tld.cells])
      have hs6 := hs1.new (vs := ([Value.agg #[.int .u32 x.addr, .int .u8 x.len, .int .i64 x.who, .int .i64 x.node, .int .u16 x.seq, .int .u16 x.metric, .int .u64 x.til]].flatMap fun v => v.cells.toList).toArray) (e := 43) hf
      have hle1 := hs1.le
      simp (disch := omega) only [go_sem, ↓reduceIte ]
      refine appendQ_two (aw_append sl26 zero43 rfl by43 hs6 (hlit.src sl26 tdCells_one) (by simp only [maxLen]; omega) (by omega) (by omega) fun v7 H7 nx7 own7 hn7 hs7 ho7 hk7 _ => ?_)
      have hone7 := hs7.one
      simp (disch := omega) only [go_sem, ↓reduceIte , hone7]
      refine ⟨us.length - (k + 1), by omega, k + 1, v7, own7, ⟨rfl, by omega, rfl, by omega, (by repeat first | exact Kp.refl _ _ _ | refine Kp.dropT ?_ (.inl (by omega)) | refine Kp.put ?_ (.inl (by omega)) | refine Kp.new ?_ (by omega) | refine Kp.put ?_ (.inr (by omega)) | refine Kp.trans0 ?_ (by assumption) (by omega) | refine Kp.transS ?_ (by assumption) (by omega) (fun b hb hT => by first | omega | (dsimp only at hT ⊢; omega) | (simp only at hT ⊢; omega))) , ?_, by omega⟩⟩
      rw [hstep, if_neg hki, List.length_append, tdCells_append]
      exact hs7
  · obtain rfl : k = us.length := by omega
    rw [lessI_all] at hs1
    simp (disch := omega) only [go_sem, ↓reduceIte , hc, hone]
    exact ⟨by omega, (by repeat first | exact Kp.refl _ _ _ | refine Kp.dropT ?_ (.inl (by omega)) | refine Kp.put ?_ (.inl (by omega)) | refine Kp.new ?_ (by omega) | refine Kp.put ?_ (.inr (by omega)) | refine Kp.trans0 ?_ (by assumption) (by omega) | refine Kp.transS ?_ (by assumption) (by omega) (fun b hb hT => by first | omega | (dsimp only at hT ⊢; omega) | (simp only at hT ⊢; omega))) , lv, own', rfl, ((hs1.put (by omega)).put (by omega)).put (by omega), by omega⟩
end Go.Proofs.Ytgopmklcggoliaa
