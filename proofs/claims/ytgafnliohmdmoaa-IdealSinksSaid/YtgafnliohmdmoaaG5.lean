/- Ideal, in our own logic: New, last, Add, Sync, Len, Safe, Cut, Fold, Fell. -/
import Derived.Test.YtgafnliohmdmoaaG4
namespace Go.Proofs.Ytgafnliohmdmoaa
open Go.RowKit
set_option linter.unusedSimpArgs false

/-- A history as it should be, in block p. -/
structure IdealA (lo nx : Nat) (H : AH) (p : Nat) (cs : List Chg) (own : Nat) (safe cut : Int) : Prop where
  ge : lo ≤ p
  lt : p < nx
  q : ∃ v, H.c p 0 = some v ∧ SlA nx H 8 v cs.length (chCells cs) own
  s : H.c p 1 = some (.int .i64 safe)
  c : H.c p 2 = some (.int .i64 cut)
  ow : own = 0 ∨ lo < own
  ne : own ≠ p + 1
  no : ∀ (i : Nat) (c : Chg), cs[i]? = some c → c.no = i + 1

theorem IdealA.kp {lo nx : Nat} {H : AH} {p : Nat} {cs : List Chg} {own : Nat} {safe cut : Int} (h : IdealA lo nx H p cs own safe cut) {S : Nat → Prop} {nx' : Nat} {H' : AH} (hk : Kp S nx H H') (hn : nx ≤ nx') (h1 : ¬ S p) (h2 : ∀ b, b + 1 = own → ¬ S b) : IdealA lo nx' H' p cs own safe cut := by
  obtain ⟨v, hv, hs⟩ := h.q
  have hlt := h.lt
  have hp := hk p hlt h1
  exact ⟨h.ge, by omega, ⟨v, by rw [hp.1]; exact hv, hs.kp hk hn h2⟩, by rw [hp.1]; exact h.s, by rw [hp.1]; exact h.c, h.ow, h.ne, h.no⟩

set_option maxRecDepth 20000 in
theorem inew_c {lo : Nat} {H : AH} {nx : Nat} : ACalls Try.prog lo 18 #[] H nx (fun v H' nx' => ∃ p, v = .pointer (some ⟨p, 0, none⟩) ∧ nx ≤ p ∧ IdealA lo nx' H' p [] 0 0 0 ∧ Kp (fun _ => False) nx H H') := by
  refine ACalls.withLo fun hlo => ?_
  refine acalls_of_awp L18 Try.func18 rfl (by kernel_rfl) ?_
  simp (disch := omega) only [go_sem, ↓reduceIte ]
  intro p hp
  simp (disch := omega) only [go_sem, ↓reduceIte ]
  exact ⟨p, rfl, hp, ⟨by omega, by omega, ⟨_, by simp (disch := omega) only [go_sem, ↓reduceIte ], SlA.nil _ _ _⟩, by simp (disch := omega) only [go_sem, ↓reduceIte ], by simp (disch := omega) only [go_sem, ↓reduceIte ], .inl rfl, by omega, by simp⟩, (by repeat first | exact Kp.refl _ _ _ | refine Kp.dropT ?_ (.inl (by omega)) | refine Kp.put ?_ (.inl (by omega)) | refine Kp.new ?_ (by omega) | refine Kp.put ?_ (.inr (by omega)) | refine Kp.newO ?_ (by omega) | refine Kp.setO ?_ (.inl (by omega)) | refine Kp.setO ?_ (.inr (by omega)) | refine Kp.trans0 ?_ (by assumption) (by omega) | refine Kp.transS ?_ (by assumption) (by omega) (fun b hb hT => by first | omega | (dsimp only at hT ⊢; omega) | (simp only at hT ⊢; omega))) ⟩

set_option maxRecDepth 20000 in
theorem isync_c {lo : Nat} {p : Nat} {cs : List Chg} {own : Nat} {safe cut : Int} {H : AH} {nx : Nat} (hI : IdealA lo nx H p cs own safe cut) :
    ACalls Try.prog lo 8 #[.pointer (some ⟨p, 0, none⟩)] H nx (fun v H' nx' => v = .tuple #[] ∧ IdealA lo nx' H' p cs own cs.length cut ∧ nx ≤ nx' ∧ Kp (fun b => b = p) nx H H') := by
  refine acalls_of_awp L8 Try.func8 rfl (by kernel_rfl) ?_
  obtain ⟨ge, lt, ⟨v, hq, hs⟩, s, c, ow, ne, no⟩ := hI
  obtain ⟨a, cc, rfl⟩ := hs.form
  simp (disch := omega) only [go_sem, ↓reduceIte , hq, s]
  exact ⟨⟨ge, lt, ⟨_, by simp (disch := omega) only [go_sem, ↓reduceIte , hq], hs.put (by omega)⟩, by simp (disch := omega) only [go_sem, ↓reduceIte ], by simp (disch := omega) only [go_sem, ↓reduceIte , c], ow, ne, no⟩, Nat.le_refl _, (by repeat first | exact Kp.refl _ _ _ | refine Kp.dropT ?_ (.inl (by omega)) | refine Kp.put ?_ (.inl (by omega)) | refine Kp.new ?_ (by omega) | refine Kp.put ?_ (.inr (by omega)) | refine Kp.newO ?_ (by omega) | refine Kp.setO ?_ (.inl (by omega)) | refine Kp.setO ?_ (.inr (by omega)) | refine Kp.trans0 ?_ (by assumption) (by omega) | refine Kp.transS ?_ (by assumption) (by omega) (fun b hb hT => by first | omega | (dsimp only at hT ⊢; omega) | (simp only at hT ⊢; omega))) ⟩

set_option maxRecDepth 20000 in
theorem ilen_c {lo : Nat} {p : Nat} {cs : List Chg} {own : Nat} {safe cut : Int} {H : AH} {nx : Nat} (hI : IdealA lo nx H p cs own safe cut) :
    ACalls Try.prog lo 10 #[.pointer (some ⟨p, 0, none⟩)] H nx (fun v H' nx' => v = .int .i64 cs.length ∧ H' = H ∧ nx' = nx) := by
  refine acalls_of_awp L10 Try.func10 rfl (by kernel_rfl) ?_
  obtain ⟨ge, lt, ⟨v, hq, hs⟩, s, c, ow, ne, no⟩ := hI
  obtain ⟨a, cc, rfl⟩ := hs.form
  simp (disch := omega) only [go_sem, ↓reduceIte , hq]
set_option maxRecDepth 20000 in
theorem isafe_c {lo : Nat} {p : Nat} {cs : List Chg} {own : Nat} {safe cut : Int} {H : AH} {nx : Nat} (hI : IdealA lo nx H p cs own safe cut) :
    ACalls Try.prog lo 14 #[.pointer (some ⟨p, 0, none⟩)] H nx (fun v H' nx' => v = .int .i64 safe ∧ H' = H ∧ nx' = nx) := by
  refine acalls_of_awp L14 Try.func14 rfl (by kernel_rfl) ?_
  have s := hI.s
  simp (disch := omega) only [go_sem, ↓reduceIte , s]
set_option maxRecDepth 20000 in
theorem icut_c {lo : Nat} {p : Nat} {cs : List Chg} {own : Nat} {safe cut : Int} {H : AH} {nx : Nat} (hI : IdealA lo nx H p cs own safe cut) :
    ACalls Try.prog lo 12 #[.pointer (some ⟨p, 0, none⟩)] H nx (fun v H' nx' => v = .int .i64 cut ∧ H' = H ∧ nx' = nx) := by
  refine acalls_of_awp L12 Try.func12 rfl (by kernel_rfl) ?_
  have s := hI.c
  simp (disch := omega) only [go_sem, ↓reduceIte , s]

def foldR (lo p : Nat) (cs : List Chg) (own : Nat) (safe cut n : Int) (v : Value) (H' : AH) (nx' : Nat) : Prop :=
  (cut ≤ n ∧ n ≤ cs.length ∧ v = .int .i64 0 ∧ IdealA lo nx' H' p cs own cs.length n) ∨ (¬ (cut ≤ n ∧ n ≤ cs.length) ∧ v = .int .i64 1 ∧ IdealA lo nx' H' p cs own safe cut)
def fellR (lo p : Nat) (cs : List Chg) (own : Nat) (safe cut n m : Int) (v : Value) (H' : AH) (nx' : Nat) : Prop :=
  (safe ≤ n ∧ n ≤ cs.length ∧ cut ≤ m ∧ m ≤ n ∧ v = .int .i64 0 ∧ IdealA lo nx' H' p (cs.take n.toNat) own n m) ∨ (¬ (safe ≤ n ∧ n ≤ cs.length ∧ cut ≤ m ∧ m ≤ n) ∧ v = .int .i64 1 ∧ IdealA lo nx' H' p cs own safe cut)

set_option maxRecDepth 20000 in
theorem ifold_c {lo : Nat} {p : Nat} {cs : List Chg} {own : Nat} {safe cut : Int} {H : AH} {nx : Nat} (hI : IdealA lo nx H p cs own safe cut) (n : Int) :
    ACalls Try.prog lo 7 #[.pointer (some ⟨p, 0, none⟩), .int .i64 n] H nx (fun v H' nx' => nx ≤ nx' ∧ Kp (fun b => b = p) nx H H' ∧ foldR lo p cs own safe cut n v H' nx') := by
  refine acalls_of_awp L7 Try.func7 rfl (by kernel_rfl) ?_
  have hI0 := hI
  obtain ⟨ge, lt, ⟨v, hq, hs⟩, s, c, ow, ne, no⟩ := hI
  obtain ⟨a, cc, rfl⟩ := hs.form
  by_cases h1 : n < cut
  · simp (disch := omega) only [go_sem, ↓reduceIte , hq, c]
    exact ⟨Nat.le_refl _, Kp.refl _ _ _, .inr ⟨by omega, rfl, hI0⟩⟩
  · by_cases h2 : n > cs.length
    · simp (disch := omega) only [go_sem, ↓reduceIte , hq, c]
      exact ⟨Nat.le_refl _, Kp.refl _ _ _, .inr ⟨by omega, rfl, hI0⟩⟩
    · simp (disch := omega) only [go_sem, ↓reduceIte , hq, c]
      have hI2 : IdealA lo nx (H.put p 2 (.int .i64 n)) p cs own safe n := ⟨ge, lt, ⟨_, by simp (disch := omega) only [go_sem, ↓reduceIte , hq], hs.put (by omega)⟩, by simp (disch := omega) only [go_sem, ↓reduceIte , s], by simp (disch := omega) only [go_sem, ↓reduceIte ], ow, ne, no⟩
      refine (isync_c hI2).mono fun v H' nx' _ ⟨hv, hI', hx, hk⟩ => ?_
      subst hv
      simp (disch := omega) only [go_sem, ↓reduceIte ]
      exact ⟨hx, (by repeat first | exact Kp.refl _ _ _ | refine Kp.dropT ?_ (.inl (by omega)) | refine Kp.put ?_ (.inl (by omega)) | refine Kp.new ?_ (by omega) | refine Kp.put ?_ (.inr (by omega)) | refine Kp.newO ?_ (by omega) | refine Kp.setO ?_ (.inl (by omega)) | refine Kp.setO ?_ (.inr (by omega)) | refine Kp.trans0 ?_ (by assumption) (by omega) | refine Kp.transS ?_ (by assumption) (by omega) (fun b hb hT => by first | omega | (dsimp only at hT ⊢; omega) | (simp only at hT ⊢; omega))) , .inl ⟨by omega, by omega, rfl, hI'⟩⟩

theorem chCells_take (cs : List Chg) (n : Nat) : (chCells cs).take (n * 8) = chCells (cs.take n) := by
  induction cs generalizing n with
  | nil => simp [chCells]
  | cons x r ih =>
    cases n with
    | zero => simp [chCells]
    | succ n =>
      show (x.cells ++ chCells r).take ((n + 1) * 8) = x.cells ++ chCells (r.take n)
      rw [List.take_append, List.take_of_length_le (by show 8 ≤ _; omega), ← ih]
      congr 2
      show (n + 1) * 8 - 8 = _
      omega

theorem chCells_drop (cs : List Chg) (n : Nat) : (chCells cs).drop (n * 8) = chCells (cs.drop n) := by
  induction cs generalizing n with
  | nil => simp [chCells]
  | cons x r ih =>
    cases n with
    | zero => simp [chCells]
    | succ n =>
      show (x.cells ++ chCells r).drop ((n + 1) * 8) = chCells (r.drop n)
      rw [List.drop_append, List.drop_of_length_le (by show 8 ≤ _; omega), ← ih]
      rw [List.nil_append]
      congr 1
      show (n + 1) * 8 - 8 = _
      omega

set_option maxRecDepth 20000 in
theorem ifell_c {lo : Nat} {p : Nat} {cs : List Chg} {own : Nat} {safe cut : Int} {H : AH} {nx : Nat} (hI : IdealA lo nx H p cs own safe cut) (h0 : 0 ≤ cut) (n m : Int) :
    ACalls Try.prog lo 9 #[.pointer (some ⟨p, 0, none⟩), .int .i64 n, .int .i64 m] H nx (fun v H' nx' => nx ≤ nx' ∧ Kp (fun b => b = p) nx H H' ∧ fellR lo p cs own safe cut n m v H' nx') := by
  refine acalls_of_awp L9 Try.func9 rfl (by kernel_rfl) ?_
  have hI0 := hI
  obtain ⟨ge, lt, ⟨v, hq, hs⟩, s, c, ow, ne, no⟩ := hI
  obtain ⟨a, cc, rfl⟩ := hs.form
  by_cases h1 : n < safe
  · simp (disch := omega) only [go_sem, ↓reduceIte , hq, c, s]
    exact ⟨Nat.le_refl _, Kp.refl _ _ _, .inr ⟨by omega, rfl, hI0⟩⟩
  · by_cases h2 : n > cs.length
    · simp (disch := omega) only [go_sem, ↓reduceIte , hq, c, s]
      exact ⟨Nat.le_refl _, Kp.refl _ _ _, .inr ⟨by omega, rfl, hI0⟩⟩
    · by_cases h3 : m < cut
      · simp (disch := omega) only [go_sem, ↓reduceIte , hq, c, s]
        exact ⟨Nat.le_refl _, Kp.refl _ _ _, .inr ⟨by omega, rfl, hI0⟩⟩
      · by_cases h4 : m > n
        · simp (disch := omega) only [go_sem, ↓reduceIte , hq, c, s]
          exact ⟨Nat.le_refl _, Kp.refl _ _ _, .inr ⟨by omega, rfl, hI0⟩⟩
        · simp (disch := omega) only [go_sem, ↓reduceIte , hq, c, s]
          have hcc : cs.length ≤ cc := by
            rcases hs.2.2 with ⟨_, h2, _⟩ | ⟨g, off, cap, h2, _, h5, _⟩
            · omega
            · simp only [Value.slice.injEq] at h2; omega
          rw [slice_hm sl25 (by omega) (by omega) (by omega)]
          have hcut := hs.cut (l := 0) (h := n.toNat) (m := n.toNat) (by omega) (by omega) (by omega) (by omega)
          rw [Nat.zero_mul, List.drop_zero, Nat.sub_zero, chCells_take] at hcut
          generalize hcv : cutS a 8 n.toNat 0 n.toNat = cv at hcut ⊢
          have hone := hcut.one
          simp (disch := omega) only [go_sem, ↓reduceIte , hq, c, s, hone]
          refine ⟨Nat.le_refl _, (by repeat first | exact Kp.refl _ _ _ | refine Kp.dropT ?_ (.inl (by omega)) | refine Kp.put ?_ (.inl (by omega)) | refine Kp.new ?_ (by omega) | refine Kp.put ?_ (.inr (by omega)) | refine Kp.newO ?_ (by omega) | refine Kp.setO ?_ (.inl (by omega)) | refine Kp.setO ?_ (.inr (by omega)) | refine Kp.trans0 ?_ (by assumption) (by omega) | refine Kp.transS ?_ (by assumption) (by omega) (fun b hb hT => by first | omega | (dsimp only at hT ⊢; omega) | (simp only at hT ⊢; omega))) , .inl ⟨by omega, by omega, by omega, by omega, rfl, ⟨ge, lt, ⟨cv, by simp (disch := omega) only [go_sem, ↓reduceIte ], ?_⟩, by simp (disch := omega) only [go_sem, ↓reduceIte ], by simp (disch := omega) only [go_sem, ↓reduceIte ], ow, ne, fun i c hc => ?_⟩⟩⟩
          · have : (cs.take n.toNat).length = n.toNat := by simp; omega
            rw [this]
            exact ((hcut.put (by omega)).put (by omega)).put (by omega)
          · rw [List.getElem?_take] at hc
            split at hc
            · exact no i c hc
            · cases hc

set_option maxRecDepth 20000 in
theorem ilast_c {lo : Nat} {p : Nat} {cs : List Chg} {own : Nat} {safe cut : Int} {H : AH} {nx : Nat} (hI : IdealA lo nx H p cs own safe cut) :
    ACalls Try.prog lo 20 #[.pointer (some ⟨p, 0, none⟩), .int .i64 cs.length] H nx (fun v H' nx' => ∃ d : Chg, v = .agg #[.int .u64 d.no, .int .u64 d.time, .bool d.gone, .int .u32 d.addr, .int .u8 d.len, .int .i64 d.via, .int .u16 d.metric, .int .u16 d.seq] ∧ d.no = cs.length ∧ (d.time = 0 ∨ cs[cs.length - 1]? = some d) ∧ nx ≤ nx' ∧ Kp (fun _ => False) nx H H') := by
  refine ACalls.withLo fun hlo => ?_
  refine acalls_of_awp L20 Try.func20 rfl (by kernel_rfl) ?_
  obtain ⟨ge, lt, ⟨v, hq, hs⟩, s, c, ow, ne, no⟩ := hI
  obtain ⟨a, cc, rfl⟩ := hs.form
  have hle := hs.le
  have hmx := hs.maxLen
  simp only [maxLen] at hmx
  simp (disch := omega) only [go_sem, ↓reduceIte ]
  intro b hb
  by_cases h : cs.length = 0
  · simp (disch := omega) only [go_sem, ↓reduceIte , h]
    exact ⟨⟨0, 0, false, 0, 0, 0, 0, 0⟩, rfl, by simp, .inl rfl, by omega, (by repeat first | exact Kp.refl _ _ _ | refine Kp.dropT ?_ (.inl (by omega)) | refine Kp.put ?_ (.inl (by omega)) | refine Kp.new ?_ (by omega) | refine Kp.put ?_ (.inr (by omega)) | refine Kp.newO ?_ (by omega) | refine Kp.setO ?_ (.inl (by omega)) | refine Kp.setO ?_ (.inr (by omega)) | refine Kp.trans0 ?_ (by assumption) (by omega) | refine Kp.transS ?_ (by assumption) (by omega) (fun b hb hT => by first | omega | (dsimp only at hT ⊢; omega) | (simp only at hT ⊢; omega))) ⟩
  · obtain ⟨g, off, cap, hv, hg⟩ := hs.open (by omega)
    cases hv
    have hsn : SlA (b + 1) (H.new b #[.int .u64 0, .int .u64 0, .bool false, .int .u32 0, .int .u8 0, .int .i64 0, .int .u16 0, .int .u16 0] 47) 8 (.slice (some ⟨g, off, none⟩) cs.length cc) cs.length (chCells cs) own := hs.new hb
    obtain ⟨d, hx0⟩ : ∃ d, cs[cs.length - 1]? = some d := ⟨_, List.getElem?_eq_getElem (by omega)⟩
    have hld := ch_load hsn hx0
    unfold Chg.cells at hld
    rw [show cs.length - 1 = ((cs.length : Int) - 1).toNat by omega] at hld
    simp (disch := omega) only [go_sem, ↓reduceIte , hq, hld]
    have hdn := no _ _ hx0
    exact ⟨d, rfl, by omega, .inr hx0, by omega, (by repeat first | exact Kp.refl _ _ _ | refine Kp.dropT ?_ (.inl (by omega)) | refine Kp.put ?_ (.inl (by omega)) | refine Kp.new ?_ (by omega) | refine Kp.put ?_ (.inr (by omega)) | refine Kp.newO ?_ (by omega) | refine Kp.setO ?_ (.inl (by omega)) | refine Kp.setO ?_ (.inr (by omega)) | refine Kp.trans0 ?_ (by assumption) (by omega) | refine Kp.transS ?_ (by assumption) (by omega) (fun b hb hT => by first | omega | (dsimp only at hT ⊢; omega) | (simp only at hT ⊢; omega))) ⟩

set_option maxRecDepth 20000 in
theorem iadd_c {lo : Nat} {p : Nat} {cs : List Chg} {own : Nat} {safe cut : Int} {H : AH} {nx : Nat} (hI : IdealA lo nx H p cs own safe cut) (h1000 : cs.length ≤ 1000) {y : Chg} (hy : ChOk y) (hyn : y.no = cs.length + 1) (hy0 : 0 ≤ y.time) (hyt : ∀ d, cs[cs.length - 1]? = some d → d.time ≤ y.time) :
    ACalls Try.prog lo 19 #[.pointer (some ⟨p, 0, none⟩), .agg #[.int .u64 y.no, .int .u64 y.time, .bool y.gone, .int .u32 y.addr, .int .u8 y.len, .int .i64 y.via, .int .u16 y.metric, .int .u16 y.seq]] H nx (fun v H' nx' => v = .int .i64 0 ∧ nx ≤ nx' ∧ Kp (fun b => b = p ∨ b + 1 = own) nx H H' ∧ ∃ own', IdealA lo nx' H' p (cs ++ [y]) own' safe cut ∧ (own' = own ∨ nx < own')) := by
  refine ACalls.withLo fun hlo => ?_
  refine acalls_of_awp L19 Try.func19 rfl (by kernel_rfl) ?_
  have hge := hI.ge
  have hlt := hI.lt
  simp (disch := omega) only [go_sem, ↓reduceIte ]
  intro b hb
  simp (disch := omega) only [go_sem, ↓reduceIte ]
  refine (chRight_c hy _ _).mono fun v H1 nx1 _ ⟨hv, hx1, hk1⟩ => ?_
  subst hv
  have hc1 := hk1.cell0
  have hI1 : IdealA lo nx1 H1 p cs own safe cut := hI.kp (S := fun _ => False) (by repeat first | exact Kp.refl _ _ _ | refine Kp.dropT ?_ (.inl (by omega)) | refine Kp.put ?_ (.inl (by omega)) | refine Kp.new ?_ (by omega) | refine Kp.put ?_ (.inr (by omega)) | refine Kp.newO ?_ (by omega) | refine Kp.setO ?_ (.inl (by omega)) | refine Kp.setO ?_ (.inr (by omega)) | refine Kp.trans0 ?_ (by assumption) (by omega) | refine Kp.transS ?_ (by assumption) (by omega) (fun b hb hT => by first | omega | (dsimp only at hT ⊢; omega) | (simp only at hT ⊢; omega)))  (by omega) (by simp) (by simp)
  obtain ⟨v, hq, hs⟩ := hI1.q
  have hle := hs.le
  have how := hI1.ow
  have hne := hI1.ne
  obtain ⟨a, cc, rfl⟩ := hs.form
  simp (disch := omega) only [go_sem, ↓reduceIte ]
  refine awp_draw ord19x5 (by kernel_rfl) ?_
  simp (disch := omega) only [go_sem, ↓reduceIte , ord19x5, hq, hc1]
  refine (ilast_c hI1).mono fun v H2 nx2 _ ⟨d, hv, hdn, hdt, hx2, hk2⟩ => ?_
  subst hv
  have hc2 := hk2.cell0
  simp (disch := omega) only [go_sem, ↓reduceIte , hc1]
  refine ⟨dkeep_kp (by repeat first | exact Kp.refl _ _ _ | refine Kp.dropT ?_ (.inl (by omega)) | refine Kp.put ?_ (.inl (by omega)) | refine Kp.new ?_ (by omega) | refine Kp.put ?_ (.inr (by omega)) | refine Kp.newO ?_ (by omega) | refine Kp.setO ?_ (.inl (by omega)) | refine Kp.setO ?_ (.inr (by omega)) | refine Kp.trans0 ?_ (by assumption) (by omega) | refine Kp.transS ?_ (by assumption) (by omega) (fun b hb hT => by first | omega | (dsimp only at hT ⊢; omega) | (simp only at hT ⊢; omega))) , ?_⟩
  refine (chFollows_c d y (by omega) (by omega) (by omega) (by rcases hdt with h | h; omega; exact hyt d h) _ _).mono fun v H3 nx3 _ ⟨hv, hx3, hk3⟩ => ?_
  subst hv
  have hc3 := hk3.cell0
  simp (disch := omega) only [go_sem, ↓reduceIte ]
  refine ⟨dkeep_kp (by repeat first | exact Kp.refl _ _ _ | refine Kp.dropT ?_ (.inl (by omega)) | refine Kp.put ?_ (.inl (by omega)) | refine Kp.new ?_ (by omega) | refine Kp.put ?_ (.inr (by omega)) | refine Kp.newO ?_ (by omega) | refine Kp.setO ?_ (.inl (by omega)) | refine Kp.setO ?_ (.inr (by omega)) | refine Kp.trans0 ?_ (by assumption) (by omega) | refine Kp.transS ?_ (by assumption) (by omega) (fun b hb hT => by first | omega | (dsimp only at hT ⊢; omega) | (simp only at hT ⊢; omega))) , ?_⟩
  have hI3 : IdealA lo nx3 H3 p cs own safe cut := hI1.kp (S := fun _ => False) (by repeat first | exact Kp.refl _ _ _ | refine Kp.dropT ?_ (.inl (by omega)) | refine Kp.put ?_ (.inl (by omega)) | refine Kp.new ?_ (by omega) | refine Kp.put ?_ (.inr (by omega)) | refine Kp.newO ?_ (by omega) | refine Kp.setO ?_ (.inl (by omega)) | refine Kp.setO ?_ (.inr (by omega)) | refine Kp.trans0 ?_ (by assumption) (by omega) | refine Kp.transS ?_ (by assumption) (by omega) (fun b hb hT => by first | omega | (dsimp only at hT ⊢; omega) | (simp only at hT ⊢; omega)))  (by omega) (by simp) (by simp)
  obtain ⟨ge, lt, ⟨v, hq3, hs3⟩, s3, c3, ow3, ne3, no3⟩ := hI3
  obtain ⟨a3, cc3, rfl⟩ := hs3.form
  refine awp_draw ord19x7 (by kernel_rfl) ?_
  simp (disch := omega) only [go_sem, ↓reduceIte , ord19x7, hq3, hc3, hc2, hc1]
  refine buildSQ_all (n := 1) [.agg #[.int .u64 y.no, .int .u64 y.time, .bool y.gone, .int .u32 y.addr, .int .u8 y.len, .int .i64 y.via, .int .u16 y.metric, .int .u16 y.seq]] sl25 zero47 (by omega) (by omega) rfl (by simp [cells_agg]) fun d hd => ?_
  have hlit : SlA (d + 1) _ 8 (.slice (some ⟨d, 0, none⟩) 1 1) 1 (chCells [y]) (d + 1) := SlA.ofNew (H := H3) (e := 47) (cs := ([Value.agg #[.int .u64 y.no, .int .u64 y.time, .bool y.gone, .int .u32 y.addr, .int .u8 y.len, .int .i64 y.via, .int .u16 y.metric, .int .u16 y.seq]].flatMap fun v => v.cells.toList).toArray) rfl (by omega) (by simp [maxLen]) (by simp [cells_agg]) (fun j _ => by simp [cells_agg, chCells, Chg.cells])
  have hs6 := hs3.new (vs := ([Value.agg #[.int .u64 y.no, .int .u64 y.time, .bool y.gone, .int .u32 y.addr, .int .u8 y.len, .int .i64 y.via, .int .u16 y.metric, .int .u16 y.seq]].flatMap fun v => v.cells.toList).toArray) (e := 47) hd
  simp (disch := omega) only [go_sem, ↓reduceIte ]
  refine ⟨dkeep_kp (by repeat first | exact Kp.refl _ _ _ | refine Kp.dropT ?_ (.inl (by omega)) | refine Kp.put ?_ (.inl (by omega)) | refine Kp.new ?_ (by omega) | refine Kp.put ?_ (.inr (by omega)) | refine Kp.newO ?_ (by omega) | refine Kp.setO ?_ (.inl (by omega)) | refine Kp.setO ?_ (.inr (by omega)) | refine Kp.trans0 ?_ (by assumption) (by omega) | refine Kp.transS ?_ (by assumption) (by omega) (fun b hb hT => by first | omega | (dsimp only at hT ⊢; omega) | (simp only at hT ⊢; omega))) , ?_⟩
  refine appendQ_two (aw_append sl25 zero47 rfl by47 hs6 (hlit.src sl25 chCells_one) (by simp only [maxLen]; omega) (by omega) ow3 fun v7 H7 nx7 own7 hn7 hs7 ho7 hk7 _ => ?_)
  have hone7 := hs7.one
  have hc7 := hk7.cell
  simp (disch := omega) only [go_sem, ↓reduceIte ]
  refine ⟨dkeep_last (by kernel_rfl), ?_⟩
  simp (disch := omega) only [go_sem, ↓reduceIte , hc7, hq3, hone7]
  refine ⟨dkeep_last (by kernel_rfl), ?_⟩
  refine ⟨by omega, (by repeat first | exact Kp.refl _ _ _ | refine Kp.dropT ?_ (.inl (by omega)) | refine Kp.put ?_ (.inl (by omega)) | refine Kp.new ?_ (by omega) | refine Kp.put ?_ (.inr (by omega)) | refine Kp.newO ?_ (by omega) | refine Kp.setO ?_ (.inl (by omega)) | refine Kp.setO ?_ (.inr (by omega)) | refine Kp.trans0 ?_ (by assumption) (by omega) | refine Kp.transS ?_ (by assumption) (by omega) (fun b hb hT => by first | omega | (dsimp only at hT ⊢; omega) | (simp only at hT ⊢; omega))) , own7, ⟨ge, by omega, ⟨v7, by simp (disch := omega) only [go_sem, ↓reduceIte ], ?_⟩, by simp (disch := omega) only [go_sem, ↓reduceIte , hc7, s3], by simp (disch := omega) only [go_sem, ↓reduceIte , hc7, c3], by omega, by omega, fun i c hc => ?_⟩, by omega⟩
  · rw [List.length_append, chCells_append]
    exact hs7.put (by omega)
  · rcases Nat.lt_or_ge i cs.length with hi | hi
    · rw [List.getElem?_append_left hi] at hc
      exact no3 i c hc
    · rw [List.getElem?_append_right hi] at hc
      have e : i - cs.length = 0 := by
        rcases Nat.eq_zero_or_pos (i - cs.length) with h | h
        · exact h
        · rw [List.getElem?_eq_none (by simp; omega)] at hc; cases hc
      rw [e] at hc
      simp only [List.getElem?_cons_zero, Option.some.injEq] at hc
      subst hc
      omega
end Go.Proofs.Ytgafnliohmdmoaa
