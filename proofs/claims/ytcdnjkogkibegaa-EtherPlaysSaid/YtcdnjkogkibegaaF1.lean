/- Ether, in our own logic: what is known of an ether; node, Hears, Len, at. -/
import Derived.Test.YtcdnjkogkibegaaFacts
namespace Go.Proofs.Ytcdnjkogkibegaa
open Go.RowKit
set_option linter.unusedSimpArgs false

/-- A packet as it lies: from, to, the slice, its bytes, its block and one. -/
structure Pkt where
  fr : Int
  dst : Int
  v : Value
  bs : List Int
  own : Nat

def pkCells (l : List Pkt) : List Value := l.flatMap fun k => [.int .i64 k.fr, .int .i64 k.dst, k.v]
def byteV (l : List Int) : List Value := l.map (Value.int .u8)

/-- An ether in block p: who hears whom, what is under way. -/
structure EtherA (lo nx : Nat) (H : AH) (p : Nat) (up : Nat → Nat → Bool) (l : List Pkt) (own : Nat) : Prop where
  ge : lo ≤ p
  lt : p < nx
  up : ∀ a b, a < 16 → b < 16 → H.c p (16 * a + b) = some (.bool (up a b))
  q : ∃ v, H.c p 256 = some v ∧ SlA nx H 3 v l.length (pkCells l) own
  ow : own = 0 ∨ lo < own
  ne : own ≠ p + 1
  pk : ∀ k ∈ l, SlA nx H 1 k.v k.bs.length (byteV k.bs) k.own ∧ k.own ≠ p + 1 ∧ (k.own = 0 ∨ k.own ≠ own)

theorem EtherA.kp {lo nx : Nat} {H : AH} {p : Nat} {up : Nat → Nat → Bool} {l : List Pkt} {own : Nat} (h : EtherA lo nx H p up l own) {S : Nat → Prop} {nx' : Nat} {H' : AH} (hk : Kp S nx H H') (hn : nx ≤ nx') (h1 : ¬ S p) (h2 : ∀ b, b + 1 = own → ¬ S b) (h3 : ∀ k ∈ l, ∀ b, b + 1 = k.own → ¬ S b) : EtherA lo nx' H' p up l own := by
  obtain ⟨v, hv, hs⟩ := h.q
  have hlt := h.lt
  have hp := hk p hlt h1
  exact ⟨h.ge, by omega, fun a b ha hb => by rw [hp.1]; exact h.up a b ha hb, ⟨v, by rw [hp.1]; exact hv, hs.kp hk hn h2⟩, h.ow, h.ne, fun k hm => ⟨(h.pk k hm).1.kp hk hn (h3 k hm), (h.pk k hm).2⟩⟩
theorem EtherA.new {lo nx : Nat} {H : AH} {p : Nat} {up : Nat → Nat → Bool} {l : List Pkt} {own : Nat} (h : EtherA lo nx H p up l own) {n : Nat} {cs : Array Value} {e : TypeId} (hn : nx ≤ n) : EtherA lo (n + 1) (H.new n cs e) p up l own :=
  h.kp (S := fun _ => False) ((Kp.refl _ _ _).new hn) (by omega) (by simp) (by simp) (by simp)

def nodeC (n : Int) : Bool := decide (0 ≤ n ∧ n < 16)

theorem node_c {lo : Nat} (n : Int) (H : AH) (nx : Nat) : ACalls Try.prog lo 30 #[.int .i64 n] H nx (fun v H' nx' => v = .bool (nodeC n) ∧ H' = H ∧ nx' = nx) := by
  refine acalls_of_awp L30 Try.func30 rfl (by kernel_rfl) ?_
  simp (disch := omega) only [go_sem, ↓reduceIte ]
  refine guardQ_split (fun h => ?_) (fun h => ?_)
  · simp (disch := omega) only [go_sem, ↓reduceIte , h]
    simp only [decide_eq_true_eq] at h
    simp [nodeC, h]
  · simp (disch := omega) only [go_sem, ↓reduceIte , h]
    simp only [decide_eq_false_iff_not] at h
    simp [nodeC, h]

def hearsC (up : Nat → Nat → Bool) (a b : Int) : Bool := nodeC a && nodeC b && up a.toNat b.toNat

theorem hears_c {lo : Nat} {p : Nat} {up : Nat → Nat → Bool} {l : List Pkt} {own : Nat} {H : AH} {nx : Nat} (hE : EtherA lo nx H p up l own) (a b : Int) :
    ACalls Try.prog lo 14 #[.pointer (some ⟨p, 0, none⟩), .int .i64 a, .int .i64 b] H nx (fun v H' nx' => v = .bool (hearsC up a b) ∧ H' = H ∧ nx' = nx) := by
  refine acalls_of_awp L14 Try.func14 rfl (by kernel_rfl) ?_
  simp (disch := omega) only [go_sem, ↓reduceIte ]
  refine (node_c a H nx).mono fun v H' nx' _ ⟨hv, hH, hn⟩ => ?_
  subst hv; subst hH; subst hn
  cases ha : nodeC a
  · simp (disch := omega) only [go_sem, ↓reduceIte ]
    simp [hearsC, ha]
  · simp (disch := omega) only [go_sem, ↓reduceIte ]
    refine (node_c b H' nx').mono fun v H' nx' _ ⟨hv, hH, hn⟩ => ?_
    subst hv; subst hH; subst hn
    cases hb : nodeC b
    · simp (disch := omega) only [go_sem, ↓reduceIte ]
      simp [hearsC, hb]
    · simp only [nodeC, decide_eq_true_eq] at ha hb
      have hc := hE.up a.toNat b.toNat (by omega) (by omega)
      rw [Nat.mul_comm] at hc
      simp (disch := omega) only [go_sem, ↓reduceIte , Nat.mul_one, hc]
      simp [hearsC, nodeC, ha, hb]

/-! ### Len, at -/
theorem len_c {lo : Nat} {p : Nat} {up : Nat → Nat → Bool} {l : List Pkt} {own : Nat} {H : AH} {nx : Nat} (hE : EtherA lo nx H p up l own) :
    ACalls Try.prog lo 13 #[.pointer (some ⟨p, 0, none⟩)] H nx (fun v H' nx' => v = .int .i64 l.length ∧ H' = H ∧ nx' = nx) := by
  refine acalls_of_awp L13 Try.func13 rfl (by kernel_rfl) ?_
  obtain ⟨q, hq, hs⟩ := hE.q
  obtain ⟨a, c, rfl⟩ := hs.form
  simp (disch := omega) only [go_sem, ↓reduceIte , hq]

/-- Where a number leads to. -/
def atC (i : Int) (n : Nat) : Nat := (IntKind.u64.wrap i % (n : Int)).toNat

theorem at_none {lo : Nat} {p : Nat} {up : Nat → Nat → Bool} {own : Nat} {H : AH} {nx : Nat} (hE : EtherA lo nx H p up [] own) (i : Int) :
    ACalls Try.prog lo 33 #[.pointer (some ⟨p, 0, none⟩), .int .i64 i] H nx (fun v H' nx' => v = .tuple #[.int .i64 0, .bool false] ∧ H' = H ∧ nx' = nx) := by
  refine acalls_of_awp L33 Try.func33 rfl (by kernel_rfl) ?_
  obtain ⟨q, hq, hs⟩ := hE.q
  obtain ⟨a, c, rfl⟩ := hs.form
  simp (disch := omega) only [go_sem, ↓reduceIte , hq, List.length_nil]

theorem at_some {lo : Nat} {p : Nat} {up : Nat → Nat → Bool} {l : List Pkt} {own : Nat} {H : AH} {nx : Nat} (hE : EtherA lo nx H p up l own) (hl : 0 < l.length) (i : Int) :
    ACalls Try.prog lo 33 #[.pointer (some ⟨p, 0, none⟩), .int .i64 i] H nx (fun v H' nx' => v = .tuple #[.int .i64 (atC i l.length), .bool true] ∧ H' = H ∧ nx' = nx) := by
  refine acalls_of_awp L33 Try.func33 rfl (by kernel_rfl) ?_
  obtain ⟨q, hq, hs⟩ := hE.q
  obtain ⟨a, c, rfl⟩ := hs.form
  have hm := hs.maxLen
  simp only [maxLen] at hm
  have hr := wrap_u64_range i
  have h1 := Int.emod_nonneg (IntKind.u64.wrap i) (show (l.length : Int) ≠ 0 by omega)
  have h2 := Int.emod_lt_of_pos (IntKind.u64.wrap i) (show 0 < (l.length : Int) by omega)
  simp (disch := omega) only [go_sem, ↓reduceIte , hq]
  simp only [atC]
  congr 5
  omega

theorem atC_lt (i : Int) (n : Nat) (h : 0 < n) : atC i n < n := by
  have h1 := Int.emod_nonneg (IntKind.u64.wrap i) (show (n : Int) ≠ 0 by omega)
  have h2 := Int.emod_lt_of_pos (IntKind.u64.wrap i) (show 0 < (n : Int) by omega)
  unfold atC
  omega

/-! ### slices.Clone of bytes -/
theorem cloneB_nil {lo : Nat} {H : AH} {nx : Nat} : ACalls Try.prog lo 31 #[.slice none 0 0] H nx (fun v H' nx' => v = .slice none 0 0 ∧ H' = H ∧ nx' = nx) := by
  refine acalls_of_awp L31 Try.func31 rfl (by kernel_rfl) ?_
  simp (disch := omega) only [go_sem, ↓reduceIte ]

theorem byteV_one {bs : List Int} : ∀ v ∈ byteV bs, v.oneCell' = true := by
  intro v hv
  simp only [byteV, List.mem_map] at hv
  obtain ⟨b, _, rfl⟩ := hv
  rfl

theorem cloneB_c {lo : Nat} {H : AH} {nx : Nat} {s : Value} {bs : List Int} {own : Nat} (hs : SlA nx H 1 s bs.length (byteV bs) own) (hl : bs.length ≤ 1000000) : ACalls Try.prog lo 31 #[s] H nx
    (fun v H' nx' => nx ≤ nx' ∧ Kp (fun _ => False) nx H H' ∧ ∃ own', SlA nx' H' 1 v bs.length (byteV bs) own' ∧ (own' = 0 ∨ nx < own')) := by
  refine ACalls.withLo fun hlo => ?_
  obtain ⟨a, c, rfl⟩ := hs.form
  cases a with
  | none =>
    rcases hs.2.2 with ⟨h1, h2, h3⟩ | ⟨g, off, cap, h1, _⟩
    · simp only [Value.slice.injEq] at h1
      obtain ⟨_, _, rfl⟩ := h1
      rw [h2]
      refine cloneB_nil.mono fun v H' nx' _ ⟨hv, hH, hn⟩ => ?_
      subst hv; subst hH; subst hn
      have : bs = [] := List.eq_nil_of_length_eq_zero h2
      subst this
      exact ⟨Nat.le_refl _, Kp.refl _ _ _, 0, SlA.nil _ _ _, .inl rfl⟩
    · simp at h1
  | some a =>
    refine acalls_of_awp L31 Try.func31 rfl (by kernel_rfl) ?_
    simp (disch := omega) only [go_sem, ↓reduceIte ]
    refine buildSQ_nil sl34 fun m hm => ?_
    simp (disch := omega) only [go_sem, ↓reduceIte ]
    have h0 : SlA (m + 1) (H.new m #[] 5) 1 (.slice (some ⟨m, 0, none⟩) 0 0) 0 [] (m + 1) := SlA.ofNew (by simp) (by omega) (by simp [maxLen]) (by simp) (by simp)
    refine aw_append sl34 zero5 rfl by5 h0 ((hs.new hm).src sl34 byteV_one) (by simp only [maxLen]; omega) (by omega) (.inr (by omega)) fun v' H' nx' own' hn hs' ho hk hnil => ?_
    simp (disch := omega) only [go_sem, ↓reduceIte ]
    refine ⟨by omega, Kp.trans (U := fun _ => False) ((Kp.refl (fun _ => False) nx H).new hm) hk (by omega) (fun b _ h => h) (fun b hb h => by omega), own', by simpa using hs', ?_⟩
    omega

/-! ### Peek -/
theorem pk_cells {l : List Pkt} {k : Pkt} {i : Nat} (h : l[i]? = some k) : (pkCells l)[3 * i]? = some (.int .i64 k.fr) ∧ (pkCells l)[3 * i + 1]? = some (.int .i64 k.dst) ∧ (pkCells l)[3 * i + 2]? = some k.v := by
  induction l generalizing i with
  | nil => simp at h
  | cons x r ih =>
    cases i with
    | zero =>
      simp only [List.getElem?_cons_zero, Option.some.injEq] at h
      subst h
      simp [pkCells]
    | succ i =>
      simp only [List.getElem?_cons_succ] at h
      obtain ⟨h1, h2, h3⟩ := ih h
      have e : pkCells (x :: r) = [.int .i64 x.fr, .int .i64 x.dst, x.v] ++ pkCells r := rfl
      rw [e, show 3 * (i + 1) = 3 * i + 1 + 1 + 1 by omega]
      simp [h1, h2, h3]

theorem peek_none {lo : Nat} {p : Nat} {up : Nat → Nat → Bool} {own : Nat} {H : AH} {nx : Nat} (hE : EtherA lo nx H p up [] own) (i : Int) :
    ACalls Try.prog lo 12 #[.pointer (some ⟨p, 0, none⟩), .int .i64 i] H nx (fun v H' nx' => v = .tuple #[.agg #[.int .i64 0, .int .i64 0, .slice none 0 0], .int .i64 2] ∧ nx ≤ nx' ∧ Kp (fun _ => False) nx H H') := by
  refine ACalls.withLo fun hlo => ?_
  refine acalls_of_awp L12 Try.func12 rfl (by kernel_rfl) ?_
  simp (disch := omega) only [go_sem, ↓reduceIte ]
  intro n hn
  simp (disch := omega) only [go_sem, ↓reduceIte ]
  have hE' : EtherA lo (n + 1) (H.new n #[.int .i64 0, .int .i64 0, .slice none 0 0] 36) p up [] own := hE.new hn
  refine (at_none hE' i).mono fun v H' nx' _ ⟨hv, hH, hx⟩ => ?_
  subst hv; subst hH; subst hx
  simp (disch := omega) only [go_sem, ↓reduceIte ]
  exact ⟨by omega, (by repeat first | exact Kp.refl _ _ _ | refine Kp.dropT ?_ (.inl (by omega)) | refine Kp.put ?_ (.inl (by omega)) | refine Kp.new ?_ (by omega) | refine Kp.put ?_ (.inr (by omega)) | refine Kp.trans0 ?_ (by assumption) (by omega) | refine Kp.transS ?_ (by assumption) (by omega) (fun b hb hT => by first | omega | (dsimp only at hT ⊢; omega) | (simp only at hT ⊢; omega))) ⟩
end Go.Proofs.Ytcdnjkogkibegaa
