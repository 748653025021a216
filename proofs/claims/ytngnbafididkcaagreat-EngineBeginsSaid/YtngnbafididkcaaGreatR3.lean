/- Prefixes, in our own logic: which one it is (the document's Bit, Of, Prefix as functions of their arguments alone). Routes, in our own logic: what neighbors told; New, find, IndexFunc. Routes, in our own logic: Tell (a way is told). -/
import Derived.Test.YtngnbafididkcaaGreatG1
import Derived.Test.YtngnbafididkcaaGreatL17
section
namespace Go.Proofs.YtngnbafididkcaaGreat
open Go.RowKit
set_option linter.unusedSimpArgs false

def bitR : Nat → Int → Bool
  | 0, a => decide (a % 2 = 1)
  | n + 1, a => bitR n (a / 2)

theorem bitR_c {lo : Nat} (a i : Int) (h0 : 0 ≤ a) (h1 : a ≤ 4294967295) (h2 : 0 ≤ i) (h3 : i ≤ 31) (H : AH) (nx : Nat) : ACalls Tryz.prog lo 74 #[.int .u32 a, .int .i64 i] H nx (fun v H' nx' => v = .bool (bitR (31 - i).toNat a) ∧ H' = H ∧ nx' = nx) := by
  refine acalls_of_awp L74 Tryz.func74 rfl (by kernel_rfl) ?_
  simp (disch := omega) only [go_sem, ↓reduceIte ]
  generalize hb : bitR (31 - i).toNat a = b0
  refine awp_loop (fun m env H1 nx1 => ∃ a i : Int, BitI H nx m env H1 nx1 a i ∧ bitR (31 - i).toNat a = b0) (31 - i).toNat ⟨a, i, ⟨rfl, h0, h1, h2, h3, rfl, rfl, rfl⟩, hb⟩ (fun m env H1 nx1 ⟨a, i, hI, hb⟩ hn => ?_)
  obtain ⟨henv, h0, h1, h2, h3, hm, hH, hx⟩ := hI
  subst henv; subst hH; subst hx
  by_cases h : i < 31
  · simp (disch := omega) only [go_sem, ↓reduceIte ]
    refine ⟨(31 - (i + 1)).toNat, by omega, a / 2, i + 1, ⟨rfl, by omega, by omega, by omega, by omega, rfl, rfl, rfl⟩, ?_⟩
    rw [← hb, show (31 - i).toNat = (31 - (i + 1)).toNat + 1 by omega]
    rfl
  · simp (disch := omega) only [go_sem, ↓reduceIte ]
    rw [← hb, show (31 - i).toNat = 0 by omega]
    rfl

def ofR (a n : Int) : Nat → Int
  | 0 => 0
  | i + 1 => ofR a n i * 2 + (if (i : Int) < n ∧ bitR (31 - (i : Int)).toNat a = true then 1 else 0)

structure OfRI (a n : Int) (p nx0 : Nat) (H0 : AH) (m : Nat) (env : Env) (H1 : AH) (nx1 : Nat) (i : Nat) : Prop where
  henv : env = [(0, .int .u32 a), (1, .int .u8 n), (4, .pointer (some ⟨p, 0, none⟩)), (5, .int .u32 (ofR a n i)), (6, .int .i64 i)]
  i1 : i ≤ 32
  hm : m = 32 - i
  hH : H1 = H0
  hx : nx1 = nx0

theorem ofR_range (a n : Int) : ∀ i, 0 ≤ ofR a n i ∧ ofR a n i < 2 ^ i
  | 0 => by simp [ofR]
  | i + 1 => by
    obtain ⟨h1, h2⟩ := ofR_range a n i
    have p1 : (2 : Int) ^ (i + 1) = 2 * 2 ^ i := by rw [Int.pow_succ]; omega
    rw [ofR, p1]
    split <;> omega
theorem ofR_low (a n : Int) (hn : 0 ≤ n) : ∀ i : Nat, n ≤ i → ofR a n i % 2 ^ ((i : Int) - n).toNat = 0
  | 0, h => by simp [ofR]
  | i + 1, h => by
    by_cases hi : n ≤ i
    · have ih := ofR_low a n hn i hi
      rw [ofR, if_neg (by omega), Int.add_zero, show (((i + 1 : Nat) : Int) - n).toNat = ((i : Int) - n).toNat + 1 by omega, Int.pow_succ]
      exact Int.emod_eq_zero_of_dvd (Int.mul_dvd_mul (Int.dvd_of_emod_eq_zero ih) (Int.dvd_refl 2))
    · rw [show (((i + 1 : Nat) : Int) - n).toNat = 0 by omega]
      simp

theorem ofR_c {lo : Nat} (a n : Int) (h0 : 0 ≤ a) (h1 : a ≤ 4294967295) (h2 : 0 ≤ n) (h3 : n ≤ 32) (H : AH) (nx : Nat) : ACalls Tryz.prog lo 59 #[.int .u32 a, .int .u8 n] H nx (fun v H' nx' => v = .agg #[.int .u32 (ofR a n 32), .int .u8 n] ∧ nx ≤ nx' ∧ Kp (fun _ => False) nx H H') := by
  refine ACalls.withLo fun hlo => ?_
  refine acalls_of_awp L59 Tryz.func59 rfl (by kernel_rfl) ?_
  simp (disch := omega) only [go_sem, ↓reduceIte ]
  intro p hp
  simp (disch := omega) only [go_sem, ↓reduceIte ]
  refine awp_loop (fun m env H1 nx1 => ∃ i, OfRI a n p (p + 1) (H.new p #[.int .u32 0, .int .u8 0] 30) m env H1 nx1 i) 32 ⟨0, ⟨rfl, by omega, rfl, rfl, rfl⟩⟩ (fun m env H1 nx1 ⟨i, hI⟩ hn => ?_)
  obtain ⟨henv, i1, hm, hH, hx⟩ := hI
  subst henv; subst hH; subst hx
  obtain ⟨r0, r1⟩ := ofR_range a n i
  by_cases h : i < 32
  · have hr : ofR a n i < 2147483648 := Int.lt_of_lt_of_le r1 (by
      have h2 : (2 : Nat) ^ i ≤ 2 ^ 31 := Nat.pow_le_pow_right (by omega) (by omega)
      have h3 : (2 : Int) ^ i = ((2 ^ i : Nat) : Int) := by simp
      rw [h3]; omega)
    by_cases hin : (i : Int) < n
    · simp (disch := omega) only [go_sem, ↓reduceIte ]
      refine (bitR_c a i h0 h1 (by omega) (by omega) _ _).mono fun v H' nx' _ ⟨hv, hH, hx⟩ => ?_
      subst hv; subst hH; subst hx
      cases hb : bitR (31 - (i : Int)).toNat a
      · simp (disch := omega) only [go_sem, ↓reduceIte ]
        refine ⟨32 - (i + 1), by omega, i + 1, ⟨?_, by omega, rfl, rfl, rfl⟩⟩
        rw [ofR, hb]
        simp
      · simp (disch := omega) only [go_sem, ↓reduceIte ]
        refine ⟨32 - (i + 1), by omega, i + 1, ⟨?_, by omega, rfl, rfl, rfl⟩⟩
        rw [ofR, hb]
        simp [hin]
    · simp (disch := omega) only [go_sem, ↓reduceIte ]
      refine ⟨32 - (i + 1), by omega, i + 1, ⟨?_, by omega, rfl, rfl, rfl⟩⟩
      rw [ofR]
      simp [hin]
  · obtain rfl : i = 32 := by omega
    simp (disch := omega) only [go_sem, ↓reduceIte ]
    exact ⟨by omega, (by repeat first | exact Kp.refl _ _ _ | refine Kp.dropT ?_ (.inl (by omega)) | refine Kp.put ?_ (.inl (by omega)) | refine Kp.new ?_ (by omega) | refine Kp.put ?_ (.inr (by omega)) | refine Kp.newO ?_ (by omega) | refine Kp.setO ?_ (.inl (by omega)) | refine Kp.setO ?_ (.inr (by omega)) | refine Kp.trans0 ?_ (by assumption) (by omega) | refine Kp.transS ?_ (by assumption) (by omega) (fun b hb hT => by first | omega | (dsimp only at hT ⊢; omega) | (simp only at hT ⊢; omega))) ⟩

/-- The prefix of a number. -/
def pfxN (a : Int) : Int := 8 + a / 6 % 3 * 8
def pfxA (a : Int) : Int := ofR (orI .u32 (orI .u32 167772160 (IntKind.u32.wrap (a % 3 * 2 ^ Int.toNat 16))) (IntKind.u32.wrap (a / 3 % 2 * 2 ^ Int.toNat 15))) (pfxN a) 32

theorem pfx_range (a : Int) : 0 ≤ pfxA a ∧ pfxA a ≤ 4294967295 ∧ 0 ≤ pfxN a ∧ pfxN a ≤ 32 ∧ pxRightC (pfxA a) (pfxN a) = true := by
  have h1 : 0 ≤ pfxN a ∧ pfxN a ≤ 32 := by unfold pfxN; omega
  obtain ⟨r0, r1⟩ := ofR_range (orI .u32 (orI .u32 167772160 (IntKind.u32.wrap (a % 3 * 2 ^ Int.toNat 16))) (IntKind.u32.wrap (a / 3 % 2 * 2 ^ Int.toNat 15))) (pfxN a) 32
  have r2 := ofR_low (orI .u32 (orI .u32 167772160 (IntKind.u32.wrap (a % 3 * 2 ^ Int.toNat 16))) (IntKind.u32.wrap (a / 3 % 2 * 2 ^ Int.toNat 15))) (pfxN a) h1.1 32 h1.2
  have e : (2 : Int) ^ 32 = 4294967296 := by decide
  have r3 : pfxA a ≤ 4294967295 := by unfold pfxA; omega
  exact ⟨r0, r3, h1.1, h1.2, pxRight_of r0 r3 h1.1 h1.2 r2⟩

theorem pfx_c {lo : Nat} (a : Int) (h0 : 0 ≤ a) (h1 : a ≤ 255) (H : AH) (nx : Nat) : ACalls Tryz.prog lo 19 #[.int .u8 a] H nx (fun v H' nx' => v = .agg #[.int .u32 (pfxA a), .int .u8 (pfxN a)] ∧ nx ≤ nx' ∧ Kp (fun _ => False) nx H H') := by
  refine ACalls.withLo fun hlo => ?_
  refine acalls_of_awp L19 Tryz.func19 rfl (by kernel_rfl) ?_
  simp (disch := omega) only [go_sem, ↓reduceIte ]
  intro p hp
  simp (disch := omega) only [go_sem, ↓reduceIte ]
  refine (ofR_c _ _ (orI_range _ _).1 (orI_range _ _).2 (by omega) (by omega) _ _).mono fun v H' nx' _ ⟨hv, hx, hk⟩ => ?_
  subst hv
  have hcc := hk.cell0
  simp (disch := omega) only [go_sem, ↓reduceIte , hcc]
  exact ⟨rfl, by omega, (by repeat first | exact Kp.refl _ _ _ | refine Kp.dropT ?_ (.inl (by omega)) | refine Kp.put ?_ (.inl (by omega)) | refine Kp.new ?_ (by omega) | refine Kp.put ?_ (.inr (by omega)) | refine Kp.newO ?_ (by omega) | refine Kp.setO ?_ (.inl (by omega)) | refine Kp.setO ?_ (.inr (by omega)) | refine Kp.trans0 ?_ (by assumption) (by omega) | refine Kp.transS ?_ (by assumption) (by omega) (fun b hb hT => by first | omega | (dsimp only at hT ⊢; omega) | (simp only at hT ⊢; omega))) ⟩
end Go.Proofs.YtngnbafididkcaaGreat
end
section
namespace Go.Proofs.YtngnbafididkcaaGreat
open Go.RowKit
set_option linter.unusedSimpArgs false

/-- What was told, as it lies. -/
structure Tld where
  addr : Int
  len : Int
  who : Int
  node : Int
  seq : Int
  metric : Int
  til : Int
def Tld.cells (t : Tld) : List Value := [.int .u32 t.addr, .int .u8 t.len, .int .i64 t.who, .int .i64 t.node, .int .u16 t.seq, .int .u16 t.metric, .int .u64 t.til]
def tdCells (l : List Tld) : List Value := l.flatMap Tld.cells
theorem td_seven (t : Tld) : t.cells.length = 7 := rfl
theorem td_load {nx : Nat} {H : AH} {g off c n own : Nat} {l : List Tld} (hs : SlA nx H 7 (.slice (some ⟨g, off, none⟩) n c) n (tdCells l) own) {i : Nat} {x : Tld} (hi : l[i]? = some x) : loadN H g (off + i * 7) 7 = some x.cells := flat_load td_seven hs hi
theorem tdCells_one {l : List Tld} : ∀ v ∈ tdCells l, v.oneCell' = true := by
  intro v hv
  simp only [tdCells, List.mem_flatMap] at hv
  obtain ⟨c, _, hv⟩ := hv
  simp only [Tld.cells, List.mem_cons, List.not_mem_nil, or_false] at hv
  rcases hv with rfl | rfl | rfl | rfl | rfl | rfl | rfl <;> rfl
theorem tdCells_append (a b : List Tld) : tdCells (a ++ b) = tdCells a ++ tdCells b := by simp [tdCells]

/-- Routes in block p. -/
structure RouA (lo nx : Nat) (H : AH) (p : Nat) (ts : List Tld) (own : Nat) : Prop where
  ge : lo ≤ p
  lt : p < nx
  q : ∃ v, H.c p 0 = some v ∧ SlA nx H 7 v ts.length (tdCells ts) own
  ow : own = 0 ∨ lo < own
  ne : own ≠ p + 1

theorem RouA.kp {lo nx : Nat} {H : AH} {p : Nat} {ts : List Tld} {own : Nat} (h : RouA lo nx H p ts own) {S : Nat → Prop} {nx' : Nat} {H' : AH} (hk : Kp S nx H H') (hn : nx ≤ nx') (h1 : ¬ S p) (h2 : ∀ b, b + 1 = own → ¬ S b) : RouA lo nx' H' p ts own := by
  obtain ⟨v, hv, hs⟩ := h.q
  have hlt := h.lt
  have hp := hk p hlt h1
  exact ⟨h.ge, by omega, ⟨v, by rw [hp.1]; exact hv, hs.kp hk hn h2⟩, h.ow, h.ne⟩

theorem rnew_c {lo : Nat} {H : AH} {nx : Nat} : ACalls Tryz.prog lo 71 #[] H nx (fun v H' nx' => ∃ p, v = .pointer (some ⟨p, 0, none⟩) ∧ nx ≤ p ∧ RouA lo nx' H' p [] 0 ∧ nx ≤ nx' ∧ Kp (fun _ => False) nx H H') := by
  refine ACalls.withLo fun hlo => ?_
  refine acalls_of_awp L71 Tryz.func71 rfl (by kernel_rfl) ?_
  simp (disch := omega) only [go_sem, ↓reduceIte ]
  intro p hp
  simp (disch := omega) only [go_sem, ↓reduceIte ]
  exact ⟨p, rfl, hp, ⟨by omega, by omega, ⟨_, by simp (disch := omega) only [go_sem, ↓reduceIte ], SlA.nil _ _ _⟩, .inl rfl, by omega⟩, by omega, (by repeat first | exact Kp.refl _ _ _ | refine Kp.dropT ?_ (.inl (by omega)) | refine Kp.put ?_ (.inl (by omega)) | refine Kp.new ?_ (by omega) | refine Kp.put ?_ (.inr (by omega)) | refine Kp.newO ?_ (by omega) | refine Kp.setO ?_ (.inl (by omega)) | refine Kp.setO ?_ (.inr (by omega)) | refine Kp.trans0 ?_ (by assumption) (by omega) | refine Kp.transS ?_ (by assumption) (by omega) (fun b hb hT => by first | omega | (dsimp only at hT ⊢; omega) | (simp only at hT ⊢; omega))) ⟩

def hitC (a n b : Int) (t : Tld) : Bool := decide (t.addr = a) && decide (t.len = n) && decide (t.who = b)

theorem rfindC_c {lo : Nat} {H : AH} {nx tp tb : Nat} {a n b : Int} (ht : tp < nx) (hb : tb < nx) (c0 : H.c tp 0 = some (.int .u32 a)) (c1 : H.c tp 1 = some (.int .u8 n)) (c2 : H.c tb 0 = some (.int .i64 b)) (t : Tld) :
    ACalls Tryz.prog lo 111 #[.agg #[.int .u32 t.addr, .int .u8 t.len, .int .i64 t.who, .int .i64 t.node, .int .u16 t.seq, .int .u16 t.metric, .int .u64 t.til], .pointer (some ⟨tp, 0, none⟩), .pointer (some ⟨tb, 0, none⟩)] H nx (fun v H' nx' => v = .bool (hitC a n b t) ∧ nx ≤ nx' ∧ Kp (fun _ => False) nx H H') := by
  refine ACalls.withLo fun hlo => ?_
  refine acalls_of_awp L111 Tryz.func111 rfl (by kernel_rfl) ?_
  simp (disch := omega) only [go_sem, ↓reduceIte ]
  intro d hd
  by_cases h1 : t.addr = a
  · by_cases h2 : t.len = n
    · simp (disch := omega) only [go_sem, ↓reduceIte , c0, c1, c2, h1, h2]
      refine ⟨?_, by omega, (by repeat first | exact Kp.refl _ _ _ | refine Kp.dropT ?_ (.inl (by omega)) | refine Kp.put ?_ (.inl (by omega)) | refine Kp.new ?_ (by omega) | refine Kp.put ?_ (.inr (by omega)) | refine Kp.newO ?_ (by omega) | refine Kp.setO ?_ (.inl (by omega)) | refine Kp.setO ?_ (.inr (by omega)) | refine Kp.trans0 ?_ (by assumption) (by omega) | refine Kp.transS ?_ (by assumption) (by omega) (fun b hb hT => by first | omega | (dsimp only at hT ⊢; omega) | (simp only at hT ⊢; omega))) ⟩
      simp [hitC, h1, h2]
    · simp (disch := omega) only [go_sem, ↓reduceIte , c0, c1, c2, h1, h2]
      refine ⟨?_, by omega, (by repeat first | exact Kp.refl _ _ _ | refine Kp.dropT ?_ (.inl (by omega)) | refine Kp.put ?_ (.inl (by omega)) | refine Kp.new ?_ (by omega) | refine Kp.put ?_ (.inr (by omega)) | refine Kp.newO ?_ (by omega) | refine Kp.setO ?_ (.inl (by omega)) | refine Kp.setO ?_ (.inr (by omega)) | refine Kp.trans0 ?_ (by assumption) (by omega) | refine Kp.transS ?_ (by assumption) (by omega) (fun b hb hT => by first | omega | (dsimp only at hT ⊢; omega) | (simp only at hT ⊢; omega))) ⟩
      simp [hitC, h1, h2]
  · simp (disch := omega) only [go_sem, ↓reduceIte , c0, c1, c2, h1]
    refine ⟨?_, by omega, (by repeat first | exact Kp.refl _ _ _ | refine Kp.dropT ?_ (.inl (by omega)) | refine Kp.put ?_ (.inl (by omega)) | refine Kp.new ?_ (by omega) | refine Kp.put ?_ (.inr (by omega)) | refine Kp.newO ?_ (by omega) | refine Kp.setO ?_ (.inl (by omega)) | refine Kp.setO ?_ (.inr (by omega)) | refine Kp.trans0 ?_ (by assumption) (by omega) | refine Kp.transS ?_ (by assumption) (by omega) (fun b hb hT => by first | omega | (dsimp only at hT ⊢; omega) | (simp only at hT ⊢; omega))) ⟩
    simp [hitC, h1]

/-- Which one is the first. -/
def idxR (pred : Tld → Bool) (ts : List Tld) (v : Value) : Prop :=
  (∃ (i : Nat) (t : Tld), ts[i]? = some t ∧ pred t = true ∧ v = .int .i64 i ∧ ∀ j t', j < i → ts[j]? = some t' → pred t' = false) ∨ ((∀ t ∈ ts, pred t = false) ∧ v = .int .i64 (-1))

structure IdxI (nx0 : Nat) (H0 : AH) (pred : Tld → Bool) (ts : List Tld) (s f : Value) (m : Nat) (env : Env) (H : AH) (nx j : Nat) : Prop where
  hm : m = ts.length - j
  hj : j ≤ ts.length
  henv : env = [(0, s), (1, f), (7, .int .i64 ts.length), (8, .int .i64 j)]
  hx : nx0 ≤ nx
  hk : Kp (fun _ => False) nx0 H0 H
  hp : ∀ (i : Nat) (t : Tld), i < j → ts[i]? = some t → pred t = false

theorem idx_c {lo : Nat} {H : AH} {nx fv : Nat} {cap : List Value} {pred : Tld → Bool} {s : Value} {ts : List Tld} {own : Nat} (hs : SlA nx H 7 s ts.length (tdCells ts) own) (hf : fnOk Tryz.prog fv = true)
    (hp : ∀ t ∈ ts, ∀ (H1 : AH) (nx1 : Nat), nx ≤ nx1 → Kp (fun _ => False) nx H H1 → ACalls Tryz.prog lo fv (Value.agg #[.int .u32 t.addr, .int .u8 t.len, .int .i64 t.who, .int .i64 t.node, .int .u16 t.seq, .int .u16 t.metric, .int .u64 t.til] :: cap).toArray H1 nx1 (fun v H' nx' => v = .bool (pred t) ∧ nx1 ≤ nx' ∧ Kp (fun _ => False) nx1 H1 H')) :
    ACalls Tryz.prog lo 110 #[s, .func (.func fv) #[] cap.toArray] H nx (fun v H' nx' => idxR pred ts v ∧ nx ≤ nx' ∧ Kp (fun _ => False) nx H H') := by
  refine ACalls.withLo fun hlo => ?_
  refine acalls_of_awp L110 Tryz.func110 rfl (by kernel_rfl) ?_
  obtain ⟨sa, sc, rfl⟩ := hs.form
  have hmx := hs.maxLen
  simp only [maxLen] at hmx
  simp (disch := omega) only [go_sem, ↓reduceIte ]
  refine awp_loop (fun m env H1 nx1 => ∃ j, IdxI nx H pred ts (.slice sa ts.length sc) (.func (.func fv) #[] cap.toArray) m env H1 nx1 j) ts.length ⟨0, ⟨rfl, by omega, rfl, Nat.le_refl _, Kp.refl _ _ _, fun i t h => by omega⟩⟩ (fun m env H1 nx1 ⟨j, hJ⟩ hn => ?_)
  obtain ⟨hm, hj, henv, hx, hk, hpj⟩ := hJ
  subst henv
  by_cases hjl : j < ts.length
  · obtain ⟨t, hx0⟩ : ∃ t, ts[j]? = some t := ⟨_, List.getElem?_eq_getElem hjl⟩
    obtain ⟨g, off, cp, hv, hg⟩ := hs.open (by omega)
    cases hv
    have hld := td_load (hs.kp hk hx (by simp)) hx0
    unfold Tld.cells at hld
    simp (disch := omega) only [go_sem, ↓reduceIte , hld, hf]
    refine (hp t (List.mem_of_getElem? hx0) H1 nx1 hx hk).mono fun v H2 nx2 _ ⟨hv, hx2, hk2⟩ => ?_
    subst hv
    cases hpt : pred t with
    | true =>
      simp (disch := omega) only [go_sem, ↓reduceIte ]
      exact ⟨.inl ⟨j, t, hx0, hpt, rfl, hpj⟩, by omega, (by repeat first | exact Kp.refl _ _ _ | refine Kp.dropT ?_ (.inl (by omega)) | refine Kp.put ?_ (.inl (by omega)) | refine Kp.new ?_ (by omega) | refine Kp.put ?_ (.inr (by omega)) | refine Kp.newO ?_ (by omega) | refine Kp.setO ?_ (.inl (by omega)) | refine Kp.setO ?_ (.inr (by omega)) | refine Kp.trans0 ?_ (by assumption) (by omega) | refine Kp.transS ?_ (by assumption) (by omega) (fun b hb hT => by first | omega | (dsimp only at hT ⊢; omega) | (simp only at hT ⊢; omega))) ⟩
    | false =>
      simp (disch := omega) only [go_sem, ↓reduceIte ]
      refine ⟨ts.length - (j + 1), by omega, j + 1, ⟨rfl, by omega, rfl, by omega, (by repeat first | exact Kp.refl _ _ _ | refine Kp.dropT ?_ (.inl (by omega)) | refine Kp.put ?_ (.inl (by omega)) | refine Kp.new ?_ (by omega) | refine Kp.put ?_ (.inr (by omega)) | refine Kp.newO ?_ (by omega) | refine Kp.setO ?_ (.inl (by omega)) | refine Kp.setO ?_ (.inr (by omega)) | refine Kp.trans0 ?_ (by assumption) (by omega) | refine Kp.transS ?_ (by assumption) (by omega) (fun b hb hT => by first | omega | (dsimp only at hT ⊢; omega) | (simp only at hT ⊢; omega))) , fun i t' hi ht => ?_⟩⟩
      by_cases e : i = j
      · subst e
        rw [hx0] at ht
        cases ht
        exact hpt
      · exact hpj i t' (by omega) ht
  · simp (disch := omega) only [go_sem, ↓reduceIte ]
    refine ⟨.inr ⟨fun t ht => ?_, rfl⟩, hx, hk⟩
    obtain ⟨i, hi, rfl⟩ := List.getElem_of_mem ht
    exact hpj i _ (by omega) (List.getElem?_eq_getElem hi)

theorem rfind_c {lo : Nat} {p : Nat} {ts : List Tld} {own : Nat} {H : AH} {nx : Nat} (hR : RouA lo nx H p ts own) (a n b : Int) :
    ACalls Tryz.prog lo 75 #[.pointer (some ⟨p, 0, none⟩), .agg #[.int .u32 a, .int .u8 n], .int .i64 b] H nx (fun v H' nx' => idxR (hitC a n b) ts v ∧ nx ≤ nx' ∧ Kp (fun _ => False) nx H H') := by
  refine ACalls.withLo fun hlo => ?_
  refine acalls_of_awp L75 Tryz.func75 rfl (by kernel_rfl) ?_
  have hlt := hR.lt
  obtain ⟨v, hq, hs⟩ := hR.q
  obtain ⟨sa, sc, rfl⟩ := hs.form
  simp (disch := omega) only [go_sem, ↓reduceIte ]
  intro tp htp
  simp (disch := omega) only [go_sem, ↓reduceIte ]
  intro tb htb
  simp (disch := omega) only [go_sem, ↓reduceIte , hq]
  have hk2 : Kp (fun _ => False) nx H ((H.new tp #[.int .u32 a, .int .u8 n] 30).new tb #[.int .i64 b] 3) := (by repeat first | exact Kp.refl _ _ _ | refine Kp.dropT ?_ (.inl (by omega)) | refine Kp.put ?_ (.inl (by omega)) | refine Kp.new ?_ (by omega) | refine Kp.put ?_ (.inr (by omega)) | refine Kp.newO ?_ (by omega) | refine Kp.setO ?_ (.inl (by omega)) | refine Kp.setO ?_ (.inr (by omega)) | refine Kp.trans0 ?_ (by assumption) (by omega) | refine Kp.transS ?_ (by assumption) (by omega) (fun b hb hT => by first | omega | (dsimp only at hT ⊢; omega) | (simp only at hT ⊢; omega))) 
  refine (idx_c (fv := 111) (cap := [.pointer (some ⟨tp, 0, none⟩), .pointer (some ⟨tb, 0, none⟩)]) (pred := hitC a n b) (hs.kp hk2 (nx' := tb + 1) (by omega) (by simp)) (by kernel_rfl) (fun t _ H1 nx1 hn hk1 => ?_)).mono fun v H' nx' _ ⟨hv, hx, hk⟩ => ?_
  · have hc := hk1.cell0
    exact rfindC_c (by omega) (by omega) (by simp (disch := omega) only [go_sem, ↓reduceIte , hc]) (by simp (disch := omega) only [go_sem, ↓reduceIte , hc]) (by simp (disch := omega) only [go_sem, ↓reduceIte , hc]) t
  · have hv1 : v.oneCell' = true := by
      rcases hv with ⟨i, t, _, _, rfl, _⟩ | ⟨_, rfl⟩ <;> rfl
    simp (disch := omega) only [go_sem, ↓reduceIte , hv1]
    exact ⟨hv, by omega, (by repeat first | exact Kp.refl _ _ _ | refine Kp.dropT ?_ (.inl (by omega)) | refine Kp.put ?_ (.inl (by omega)) | refine Kp.new ?_ (by omega) | refine Kp.put ?_ (.inr (by omega)) | refine Kp.newO ?_ (by omega) | refine Kp.setO ?_ (.inl (by omega)) | refine Kp.setO ?_ (.inr (by omega)) | refine Kp.trans0 ?_ (by assumption) (by omega) | refine Kp.transS ?_ (by assumption) (by omega) (fun b hb hT => by first | omega | (dsimp only at hT ⊢; omega) | (simp only at hT ⊢; omega))) ⟩
end Go.Proofs.YtngnbafididkcaaGreat
end
section
namespace Go.Proofs.YtngnbafididkcaaGreat
open Go.RowKit
set_option linter.unusedSimpArgs false

theorem idxR_at {pred : Tld → Bool} {ts : List Tld} {v : Value} (h : idxR pred ts v) {i : Nat} {t : Tld} (hi : ts[i]? = some t) (ht : pred t = true) (hf : ∀ j t', j < i → ts[j]? = some t' → pred t' = false) : v = .int .i64 i := by
  rcases h with ⟨k, t', hk, ht', rfl, hfk⟩ | ⟨hn, rfl⟩
  · rcases Nat.lt_trichotomy i k with hlt | rfl | hlt
    · have := hfk i t hlt hi; rw [ht] at this; cases this
    · rfl
    · have := hf k t' hlt hk; rw [ht'] at this; cases this
  · have := hn t (List.mem_of_getElem? hi); rw [ht] at this; cases this
theorem idxR_none {pred : Tld → Bool} {ts : List Tld} {v : Value} (h : idxR pred ts v) (hn : ∀ t ∈ ts, pred t = false) : v = .int .i64 (-1) := by
  rcases h with ⟨k, t', hk, ht', rfl, hfk⟩ | ⟨_, rfl⟩
  · have := hn t' (List.mem_of_getElem? hk); rw [ht'] at this; cases this
  · rfl

theorem tell_set {lo : Nat} {p : Nat} {ts : List Tld} {own : Nat} {H : AH} {nx : Nat} (hR : RouA lo nx H p ts own) (x : Tld) (now : Int) (b0 : 0 ≤ x.who) (b1 : x.who < 16) (n0 : 0 ≤ x.node) (n1 : x.node < 16) (hpx : pxRightC x.addr x.len = true) (l0 : 0 ≤ x.len)
    (w0 : 0 ≤ now) (w1 : now ≤ 1000000) (ht : x.til = now + 50) (hm : x.metric ≠ 65535) (hl : ts.length ≤ 256) {i : Nat} {t0 : Tld} (hi : ts[i]? = some t0) (hit : hitC x.addr x.len x.who t0 = true) (hfst : ∀ j t', j < i → ts[j]? = some t' → hitC x.addr x.len x.who t' = false) :
    ACalls Tryz.prog lo 42 #[.pointer (some ⟨p, 0, none⟩), .int .i64 x.who, .agg #[.int .u32 x.addr, .int .u8 x.len], .int .i64 x.node, .agg #[.int .u16 x.seq, .int .u16 x.metric], .int .u64 now] H nx (fun v H' nx' => v = .int .i64 0 ∧ nx ≤ nx' ∧ Kp (fun b => b = p ∨ b + 1 = own) nx H H' ∧ RouA lo nx' H' p (ts.set i x) own) := by
  refine ACalls.withLo fun hlo => ?_
  refine acalls_of_awp L42 Tryz.func42 rfl (by kernel_rfl) ?_
  have hge := hR.ge
  have hlt := hR.lt
  have hne := hR.ne
  have hil : i < ts.length := (List.getElem?_eq_some_iff.1 hi).1
  simp (disch := omega) only [go_sem, ↓reduceIte ]
  intro tp htp
  simp (disch := omega) only [go_sem, ↓reduceIte ]
  intro tm htm
  simp (disch := omega) only [go_sem, ↓reduceIte ]
  refine (pxRight_c _ _ l0 _ _).mono fun v H1 nx1 _ ⟨hv, hx1, hk1⟩ => ?_
  subst hv
  have hc1 := hk1.cell0
  have hR1 : RouA lo nx1 H1 p ts own := hR.kp (S := fun _ => False) (by repeat first | exact Kp.refl _ _ _ | refine Kp.dropT ?_ (.inl (by omega)) | refine Kp.put ?_ (.inl (by omega)) | refine Kp.new ?_ (by omega) | refine Kp.put ?_ (.inr (by omega)) | refine Kp.newO ?_ (by omega) | refine Kp.setO ?_ (.inl (by omega)) | refine Kp.setO ?_ (.inr (by omega)) | refine Kp.trans0 ?_ (by assumption) (by omega) | refine Kp.transS ?_ (by assumption) (by omega) (fun b hb hT => by first | omega | (dsimp only at hT ⊢; omega) | (simp only at hT ⊢; omega)))  (by omega) (by simp) (by simp)
  simp (disch := omega) only [go_sem, ↓reduceIte , hpx, hc1]
  refine (rfind_c hR1 x.addr x.len x.who).mono fun v H2 nx2 _ ⟨hv, hx2, hk2⟩ => ?_
  have := idxR_at hv hi hit hfst
  subst this
  have hc2 := hk2.cell0
  have hR2 : RouA lo nx2 H2 p ts own := hR1.kp (S := fun _ => False) hk2 hx2 (by simp) (by simp)
  simp (disch := omega) only [go_sem, ↓reduceIte , hc2, hc1]
  intro tt htt
  obtain ⟨ge2, lt2, ⟨v, hq, hs⟩, ow2, ne2⟩ := hR2
  obtain ⟨g, off, cp, rfl, hg⟩ := hs.open (by omega)
  have hgl := hs.le
  have hcs := hs.cells.2.2.2.2
  have hcp := hs.cells.2.2.1
  have e0 := hcs (i * 7) (by omega)
  have e1 : (H2.c g (off + i * 7 + 1)).isSome = true := by
    have := hcs (i * 7 + 1) (by omega)
    rwa [show off + (i * 7 + 1) = off + i * 7 + 1 by omega] at this
  have e2 : (H2.c g (off + i * 7 + 1 + 1)).isSome = true := by
    have := hcs (i * 7 + 2) (by omega)
    rwa [show off + (i * 7 + 2) = off + i * 7 + 1 + 1 by omega] at this
  have e3 : (H2.c g (off + i * 7 + 1 + 1 + 1)).isSome = true := by
    have := hcs (i * 7 + 3) (by omega)
    rwa [show off + (i * 7 + 3) = off + i * 7 + 1 + 1 + 1 by omega] at this
  have e4 : (H2.c g (off + i * 7 + 1 + 1 + 1 + 1)).isSome = true := by
    have := hcs (i * 7 + 4) (by omega)
    rwa [show off + (i * 7 + 4) = off + i * 7 + 1 + 1 + 1 + 1 by omega] at this
  have e5 : (H2.c g (off + i * 7 + 1 + 1 + 1 + 1 + 1)).isSome = true := by
    have := hcs (i * 7 + 5) (by omega)
    rwa [show off + (i * 7 + 5) = off + i * 7 + 1 + 1 + 1 + 1 + 1 by omega] at this
  have e6 : (H2.c g (off + i * 7 + 1 + 1 + 1 + 1 + 1 + 1)).isSome = true := by
    have := hcs (i * 7 + 6) (by omega)
    rwa [show off + (i * 7 + 6) = off + i * 7 + 1 + 1 + 1 + 1 + 1 + 1 by omega] at this
  simp (disch := omega) only [go_sem, ↓reduceIte , hc2, hc1, hm]
  refine awp_draw ord42x12 (by kernel_rfl) ?_
  simp (disch := omega) only [go_sem, ↓reduceIte , ord42x12, hq, hc2, hc1, e0, e1, e2, e3, e4, e5, e6]
  refine ⟨dkeep_last (by kernel_rfl), ?_⟩
  refine ⟨by omega, (by repeat first | exact Kp.refl _ _ _ | refine Kp.dropT ?_ (.inl (by omega)) | refine Kp.put ?_ (.inl (by omega)) | refine Kp.new ?_ (by omega) | refine Kp.put ?_ (.inr (by omega)) | refine Kp.newO ?_ (by omega) | refine Kp.setO ?_ (.inl (by omega)) | refine Kp.setO ?_ (.inr (by omega)) | refine Kp.trans0 ?_ (by assumption) (by omega) | refine Kp.transS ?_ (by assumption) (by omega) (fun b hb hT => by first | omega | (dsimp only at hT ⊢; omega) | (simp only at hT ⊢; omega))) , ⟨by omega, by omega, ⟨.slice (some ⟨g, off, none⟩) ts.length cp, by simp (disch := omega) only [go_sem, ↓reduceIte , hq], ?_⟩, ow2, ne2⟩⟩
  rw [List.length_set]
  have hs3 : SlA (tt + 1) _ 7 (.slice (some ⟨g, off, none⟩) ts.length cp) ts.length (tdCells ts) own := hs.kp (S := fun _ => False) (nx' := tt + 1) (H' := (((((((H2.new tt #[.int .u32 0, .int .u8 0, .int .i64 0, .int .i64 0, .int .u16 0, .int .u16 0, .int .u64 0] 142).put tt 0 (.int .u32 x.addr)).put tt 1 (.int .u8 x.len)).put tt (1 + 1) (.int .i64 x.who)).put tt (1 + 1 + 1) (.int .i64 x.node)).put tt (1 + 1 + 1 + 1) (.int .u16 x.seq)).put tt (1 + 1 + 1 + 1 + 1) (.int .u16 x.metric)).put tt (1 + 1 + 1 + 1 + 1 + 1) (.int .u64 (now + 50))) (by repeat first | exact Kp.refl _ _ _ | refine Kp.dropT ?_ (.inl (by omega)) | refine Kp.put ?_ (.inl (by omega)) | refine Kp.new ?_ (by omega) | refine Kp.put ?_ (.inr (by omega)) | refine Kp.newO ?_ (by omega) | refine Kp.setO ?_ (.inl (by omega)) | refine Kp.setO ?_ (.inr (by omega)) | refine Kp.trans0 ?_ (by assumption) (by omega) | refine Kp.transS ?_ (by assumption) (by omega) (fun b hb hT => by first | omega | (dsimp only at hT ⊢; omega) | (simp only at hT ⊢; omega)))  (by omega) (by simp)
  have h := hs3.setE td_seven hil x
  unfold Tld.cells at h
  rw [ht] at h
  exact h

set_option maxRecDepth 20000 in
theorem tell_add {lo : Nat} {p : Nat} {ts : List Tld} {own : Nat} {H : AH} {nx : Nat} (hR : RouA lo nx H p ts own) (x : Tld) (now : Int) (b0 : 0 ≤ x.who) (b1 : x.who < 16) (n0 : 0 ≤ x.node) (n1 : x.node < 16) (hpx : pxRightC x.addr x.len = true) (l0 : 0 ≤ x.len)
    (w0 : 0 ≤ now) (w1 : now ≤ 1000000) (ht : x.til = now + 50) (hm : x.metric ≠ 65535) (hl : ts.length < 256) (hn : ∀ t ∈ ts, hitC x.addr x.len x.who t = false) :
    ACalls Tryz.prog lo 42 #[.pointer (some ⟨p, 0, none⟩), .int .i64 x.who, .agg #[.int .u32 x.addr, .int .u8 x.len], .int .i64 x.node, .agg #[.int .u16 x.seq, .int .u16 x.metric], .int .u64 now] H nx (fun v H' nx' => v = .int .i64 0 ∧ nx ≤ nx' ∧ Kp (fun b => b = p ∨ b + 1 = own) nx H H' ∧ ∃ own', RouA lo nx' H' p (ts ++ [x]) own' ∧ (own' = own ∨ nx < own')) := by
  refine ACalls.withLo fun hlo => ?_
  refine acalls_of_awp L42 Tryz.func42 rfl (by kernel_rfl) ?_
  have hge := hR.ge
  have hlt := hR.lt
  have hne := hR.ne
  simp (disch := omega) only [go_sem, ↓reduceIte ]
  intro tp htp
  simp (disch := omega) only [go_sem, ↓reduceIte ]
  intro tm htm
  simp (disch := omega) only [go_sem, ↓reduceIte ]
  refine (pxRight_c _ _ l0 _ _).mono fun v H1 nx1 _ ⟨hv, hx1, hk1⟩ => ?_
  subst hv
  have hc1 := hk1.cell0
  have hR1 : RouA lo nx1 H1 p ts own := hR.kp (S := fun _ => False) (by repeat first | exact Kp.refl _ _ _ | refine Kp.dropT ?_ (.inl (by omega)) | refine Kp.put ?_ (.inl (by omega)) | refine Kp.new ?_ (by omega) | refine Kp.put ?_ (.inr (by omega)) | refine Kp.newO ?_ (by omega) | refine Kp.setO ?_ (.inl (by omega)) | refine Kp.setO ?_ (.inr (by omega)) | refine Kp.trans0 ?_ (by assumption) (by omega) | refine Kp.transS ?_ (by assumption) (by omega) (fun b hb hT => by first | omega | (dsimp only at hT ⊢; omega) | (simp only at hT ⊢; omega)))  (by omega) (by simp) (by simp)
  simp (disch := omega) only [go_sem, ↓reduceIte , hpx, hc1]
  refine (rfind_c hR1 x.addr x.len x.who).mono fun v H2 nx2 _ ⟨hv, hx2, hk2⟩ => ?_
  have := idxR_none hv hn
  subst this
  have hc2 := hk2.cell0
  have hR2 : RouA lo nx2 H2 p ts own := hR1.kp (S := fun _ => False) hk2 hx2 (by simp) (by simp)
  simp (disch := omega) only [go_sem, ↓reduceIte , hc2, hc1]
  intro tt htt
  obtain ⟨ge2, lt2, ⟨v, hq, hs⟩, ow2, ne2⟩ := hR2
  obtain ⟨a, cc, rfl⟩ := hs.form
  have hle := hs.le
  have hq1 := hq
  rw [hc2 _ _ (by omega), hc1 _ _ (by omega)] at hq1
  simp (disch := omega) only [go_sem, ↓reduceIte , hc2, hc1, hm, hq1]
  refine awp_draw ord42x7 (by kernel_rfl) ?_
  simp (disch := omega) only [go_sem, ↓reduceIte , ord42x7, hq1, hc2, hc1]
  have hs3 : SlA (tt + 1) _ 7 (.slice a ts.length cc) ts.length (tdCells ts) own := hs.kp (S := fun _ => False) (nx' := tt + 1) (H' := (((((((H2.new tt #[.int .u32 0, .int .u8 0, .int .i64 0, .int .i64 0, .int .u16 0, .int .u16 0, .int .u64 0] 142).put tt 0 (.int .u32 x.addr)).put tt 1 (.int .u8 x.len)).put tt (1 + 1) (.int .i64 x.who)).put tt (1 + 1 + 1) (.int .i64 x.node)).put tt (1 + 1 + 1 + 1) (.int .u16 x.seq)).put tt (1 + 1 + 1 + 1 + 1) (.int .u16 x.metric)).put tt (1 + 1 + 1 + 1 + 1 + 1) (.int .u64 (now + 50))) (by repeat first | exact Kp.refl _ _ _ | refine Kp.dropT ?_ (.inl (by omega)) | refine Kp.put ?_ (.inl (by omega)) | refine Kp.new ?_ (by omega) | refine Kp.put ?_ (.inr (by omega)) | refine Kp.newO ?_ (by omega) | refine Kp.setO ?_ (.inl (by omega)) | refine Kp.setO ?_ (.inr (by omega)) | refine Kp.trans0 ?_ (by assumption) (by omega) | refine Kp.transS ?_ (by assumption) (by omega) (fun b hb hT => by first | omega | (dsimp only at hT ⊢; omega) | (simp only at hT ⊢; omega)))  (by omega) (by simp)
  refine buildSQ_all (n := 1) [.agg #[.int .u32 x.addr, .int .u8 x.len, .int .i64 x.who, .int .i64 x.node, .int .u16 x.seq, .int .u16 x.metric, .int .u64 (now + 50)]] sl143 zero142 (by omega) (by omega) rfl (by simp [cells_agg]) fun d hd => ?_
  have hlit : SlA (d + 1) _ 7 (.slice (some ⟨d, 0, none⟩) 1 1) 1 (tdCells [x]) (d + 1) := SlA.ofNew (H := (((((((H2.new tt #[.int .u32 0, .int .u8 0, .int .i64 0, .int .i64 0, .int .u16 0, .int .u16 0, .int .u64 0] 142).put tt 0 (.int .u32 x.addr)).put tt 1 (.int .u8 x.len)).put tt (1 + 1) (.int .i64 x.who)).put tt (1 + 1 + 1) (.int .i64 x.node)).put tt (1 + 1 + 1 + 1) (.int .u16 x.seq)).put tt (1 + 1 + 1 + 1 + 1) (.int .u16 x.metric)).put tt (1 + 1 + 1 + 1 + 1 + 1) (.int .u64 (now + 50))) (e := 142) (cs := ([Value.agg #[.int .u32 x.addr, .int .u8 x.len, .int .i64 x.who, .int .i64 x.node, .int .u16 x.seq, .int .u16 x.metric, .int .u64 (now + 50)]].flatMap fun v => v.cells.toList).toArray) rfl (by omega) (by simp [maxLen]) (by simp [cells_agg]) (fun j _ => by simp [cells_agg, tdCells, Tld.cells, ht])
  have hs6 := hs3.new (vs := ([Value.agg #[.int .u32 x.addr, .int .u8 x.len, .int .i64 x.who, .int .i64 x.node, .int .u16 x.seq, .int .u16 x.metric, .int .u64 (now + 50)]].flatMap fun v => v.cells.toList).toArray) (e := 142) hd
  simp (disch := omega) only [go_sem, ↓reduceIte ]
  refine ⟨dkeep_kp (by repeat first | exact Kp.refl _ _ _ | refine Kp.dropT ?_ (.inl (by omega)) | refine Kp.put ?_ (.inl (by omega)) | refine Kp.new ?_ (by omega) | refine Kp.put ?_ (.inr (by omega)) | refine Kp.newO ?_ (by omega) | refine Kp.setO ?_ (.inl (by omega)) | refine Kp.setO ?_ (.inr (by omega)) | refine Kp.trans0 ?_ (by assumption) (by omega) | refine Kp.transS ?_ (by assumption) (by omega) (fun b hb hT => by first | omega | (dsimp only at hT ⊢; omega) | (simp only at hT ⊢; omega))) , ?_⟩
  refine appendQ_two (aw_append sl143 zero142 rfl by142 hs6 (hlit.src sl143 tdCells_one) (by simp only [maxLen]; omega) (by omega) ow2 fun v7 H7 nx7 own7 hn7 hs7 ho7 hk7 _ => ?_)
  have hone7 := hs7.one
  have hc7 := hk7.cell
  simp (disch := omega) only [go_sem, ↓reduceIte ]
  refine ⟨dkeep_last (by kernel_rfl), ?_⟩
  simp (disch := omega) only [go_sem, ↓reduceIte , hc7, hq, hone7, hc2, hc1, hq1]
  refine ⟨dkeep_last (by kernel_rfl), ?_⟩
  refine ⟨by omega, (by repeat first | exact Kp.refl _ _ _ | refine Kp.dropT ?_ (.inl (by omega)) | refine Kp.put ?_ (.inl (by omega)) | refine Kp.new ?_ (by omega) | refine Kp.put ?_ (.inr (by omega)) | refine Kp.newO ?_ (by omega) | refine Kp.setO ?_ (.inl (by omega)) | refine Kp.setO ?_ (.inr (by omega)) | refine Kp.trans0 ?_ (by assumption) (by omega) | refine Kp.transS ?_ (by assumption) (by omega) (fun b hb hT => by first | omega | (dsimp only at hT ⊢; omega) | (simp only at hT ⊢; omega))) , own7, ⟨by omega, by omega, ⟨v7, by simp (disch := omega) only [go_sem, ↓reduceIte ], ?_⟩, by omega, by omega⟩, by omega⟩
  rw [List.length_append, tdCells_append]
  exact hs7.put (by omega)
end Go.Proofs.YtngnbafididkcaaGreat
end
