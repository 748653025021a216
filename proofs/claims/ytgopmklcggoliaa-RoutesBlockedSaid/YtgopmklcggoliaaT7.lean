/- RoutesTell: acts; which prefix is ahead. -/
import Derived.Test.YtgopmklcggoliaaT6
import Derived.Test.YtgopmklcggoliaaR10
namespace Go.Proofs.Ytgopmklcggoliaa
open Go.RowKit
set_option linter.unusedSimpArgs false

def ahd (a n a' n' : Int) : Bool := decide (a < a' ∨ (a = a' ∧ n < n'))
theorem ahead01_c {lo : Nat} (a n a' n' : Int) (H : AH) (nx : Nat) : ACalls Try.prog lo 12 #[.agg #[.int .u32 a, .int .u8 n], .agg #[.int .u32 a', .int .u8 n']] H nx (fun v H' nx' => v = .bool (ahd a n a' n') ∧ nx ≤ nx' ∧ Kp (fun _ => False) nx H H') := by
  refine ACalls.withLo fun hlo => ?_
  refine acalls_of_awp L12 Try.func12 rfl (by kernel_rfl) ?_
  simp (disch := omega) only [go_sem, ↓reduceIte ]
  intro p hp
  simp (disch := omega) only [go_sem, ↓reduceIte ]
  intro q hq
  unfold ahd
  by_cases h1 : a < a'
  · simp (disch := omega) only [go_sem, ↓reduceIte , h1]
    exact ⟨by omega, (by repeat first | exact Kp.refl _ _ _ | refine Kp.dropT ?_ (.inl (by omega)) | refine Kp.put ?_ (.inl (by omega)) | refine Kp.new ?_ (by omega) | refine Kp.put ?_ (.inr (by omega)) | refine Kp.trans0 ?_ (by assumption) (by omega) | refine Kp.transS ?_ (by assumption) (by omega) (fun b hb hT => by first | omega | (dsimp only at hT ⊢; omega) | (simp only at hT ⊢; omega))) ⟩
  · by_cases h2 : a = a'
    · subst h2
      simp (disch := omega) only [go_sem, ↓reduceIte ]
      refine ⟨?_, by omega, (by repeat first | exact Kp.refl _ _ _ | refine Kp.dropT ?_ (.inl (by omega)) | refine Kp.put ?_ (.inl (by omega)) | refine Kp.new ?_ (by omega) | refine Kp.put ?_ (.inr (by omega)) | refine Kp.trans0 ?_ (by assumption) (by omega) | refine Kp.transS ?_ (by assumption) (by omega) (fun b hb hT => by first | omega | (dsimp only at hT ⊢; omega) | (simp only at hT ⊢; omega))) ⟩
      simp
    · simp (disch := omega) only [go_sem, ↓reduceIte , h1, h2]
      refine ⟨?_, by omega, (by repeat first | exact Kp.refl _ _ _ | refine Kp.dropT ?_ (.inl (by omega)) | refine Kp.put ?_ (.inl (by omega)) | refine Kp.new ?_ (by omega) | refine Kp.put ?_ (.inr (by omega)) | refine Kp.trans0 ?_ (by assumption) (by omega) | refine Kp.transS ?_ (by assumption) (by omega) (fun b hb hT => by first | omega | (dsimp only at hT ⊢; omega) | (simp only at hT ⊢; omega))) ⟩
      simp [h1, h2]

/-- An act as it lies. -/
structure Act16 where
  k : Int
  b : Int
  p : Int
  s : Int
  m : Int
def Act16.cells (a : Act16) : List Value := [.int .u8 a.k, .int .u8 a.b, .int .u8 a.p, .int .u8 a.s, .int .u16 a.m]
def a16Cells (l : List Act16) : List Value := l.flatMap Act16.cells
theorem a16_five (a : Act16) : a.cells.length = 5 := rfl
theorem a16_load {nx : Nat} {H : AH} {g off c n own : Nat} {l : List Act16} (hs : SlA nx H 5 (.slice (some ⟨g, off, none⟩) n c) n (a16Cells l) own) {i : Nat} {x : Act16} (hi : l[i]? = some x) : loadN H g (off + i * 5) 5 = some x.cells := flat_load a16_five hs hi
structure Act16Ok (a : Act16) : Prop where
  k0 : 0 ≤ a.k
  b0 : 0 ≤ a.b
  p0 : 0 ≤ a.p
  p1 : a.p ≤ 255
  s0 : 0 ≤ a.s
  s1 : a.s ≤ 255
  m0 : 0 ≤ a.m
  m1 : a.m ≤ 65535

/-- Behind some acts: routes r, and what was told by the letter in block q4. -/
structure ActI (lo nx0 : Nat) (H0 : AH) (r q4 : Nat) (i : Nat) (H : AH) (nx : Nat) (s : Value) (ts us : List Tld) (own ownu : Nat) (now : Int) : Prop where
  hx : nx0 ≤ nx
  hkp : Kp (fun _ => False) nx0 H0 H
  hr0 : nx0 ≤ r
  hq0 : nx0 ≤ q4
  hqr : q4 ≠ r
  hq1 : q4 < nx
  hR : RouA lo nx H r ts own
  ho : own = 0 ∨ (nx0 < own ∧ own ≠ q4 + 1)
  c40 : H.c q4 0 = some s
  c41 : H.c q4 1 = some (.int .u64 now)
  hs : SlA nx H 7 s us.length (tdCells us) ownu
  hou : ownu = 0 ∨ (nx0 < ownu ∧ ownu ≠ own ∧ ownu ≠ r + 1 ∧ ownu ≠ q4 + 1)
  hT : TSt i ts us now

/-- One more act. -/
theorem ActI.next {lo nx0 : Nat} {H0 : AH} {r q4 i : Nat} {H : AH} {nx : Nat} {s : Value} {ts us : List Tld} {own ownu : Nat} {now : Int} (h : ActI lo nx0 H0 r q4 i H nx s ts us own ownu now) {v : Value} {H1 : AH} {nx1 : Nat} {s' : Value} {ts' us' : List Tld} {own' ownu' : Nat} {now' : Int} (hlo : lo ≤ nx0) (hx1 : nx ≤ nx1) (hk : Kp (fun b => b = r ∨ b + 1 = own) nx H H1) (hD : DoR lo nx r own ownu i v H1 nx1 s' ts' us' own' ownu' now') :
    ActI lo nx0 H0 r q4 (i + 1) ((H1.put q4 0 s').put q4 1 (.int .u64 now')) nx1 s' ts' us' own' ownu' now' := by
  obtain ⟨hx, hkp, hr0, hq0, hqr, hq1, hR, ho, c40, c41, hs, hou, hT⟩ := h
  obtain ⟨hv, hR', hs', ho', hou', hne', hT'⟩ := hD
  have hle := hR.q.choose_spec.2.le
  have hleu := hs.le
  have hlt := hR.lt
  refine ⟨by omega, (by repeat first | exact Kp.refl _ _ _ | refine Kp.dropT ?_ (.inl (by omega)) | refine Kp.put ?_ (.inl (by omega)) | refine Kp.new ?_ (by omega) | refine Kp.put ?_ (.inr (by omega)) | refine Kp.trans0 ?_ (by assumption) (by omega) | refine Kp.transS ?_ (by assumption) (by omega) (fun b hb hT => by first | omega | (dsimp only at hT ⊢; omega) | (simp only at hT ⊢; omega))) , hr0, hq0, hqr, by omega, ?_, by omega, ?_, ?_, (hs'.put (by omega)).put (by omega), by omega, hT'⟩
  · exact hR'.kp (S := fun b => b = q4) (nx' := nx1) (by repeat first | exact Kp.refl _ _ _ | refine Kp.dropT ?_ (.inl (by omega)) | refine Kp.put ?_ (.inl (by omega)) | refine Kp.new ?_ (by omega) | refine Kp.put ?_ (.inr (by omega)) | refine Kp.trans0 ?_ (by assumption) (by omega) | refine Kp.transS ?_ (by assumption) (by omega) (fun b hb hT => by first | omega | (dsimp only at hT ⊢; omega) | (simp only at hT ⊢; omega)))  (Nat.le_refl _) (by omega) (by intro b hb; omega)
  · rw [put_other _ _ _ _ _ (by omega), put_same]
  · rw [put_same]
end Go.Proofs.Ytgopmklcggoliaa
