/- Shelf: Arm, Room, Moves. A shelf and the reference's beside each other. -/
import Derived.Test.YtcdimjocdpogjaaY1
import Derived.Test.YtcdimjocdpogjaaY25
import Derived.Test.YtcdimjocdpogjaaY21
import Derived.Test.YtcdimjocdpogjaaY24
import Derived.Test.YtcdimjocdpogjaaY27
import Derived.Test.YtcdimjocdpogjaaP6
section
namespace Go.Proofs.Ytcdimjocdpogjaa
open Go.RowKit
set_option linter.unusedSimpArgs false

set_option maxRecDepth 20000 in
theorem shArm_c {lo nx : Nat} {H : AH} {p : Nat} {f : Fs} {L : Lay} (h : ShA lo nx H p f L) (n : Int) :
    ACalls Try.prog lo 17 #[.pointer (some ⟨p, 0, none⟩), .int .i64 n] H nx (fun v H' nx' => v = .tuple #[] ∧ After lo nx H p f L { f with left := max n (-1) } H' nx') := by
  refine acalls_of_awp L17 Try.func17 rfl (by kernel_rfl) ?_
  obtain ⟨l1, l2⟩ := h.ltp
  have c4 := h.c4
  simp (disch := omega) only [go_sem, ↓reduceIte , c4, Option.isSome_some, true_and]
  have := h.putLeft (max n (-1))
  exact ⟨L, .inPlace this (Kp.mono (T := fpS p f L) (show Kp (fun b => b = p) nx H _ from (by repeat first | exact Kp.refl _ _ _ | refine Kp.dropT ?_ (.inl (by omega)) | refine Kp.put ?_ (.inl (by omega)) | refine Kp.new ?_ (by omega) | refine Kp.put ?_ (.inr (by omega)) | refine Kp.newO ?_ (by omega) | refine Kp.setO ?_ (.inl (by omega)) | refine Kp.setO ?_ (.inr (by omega)) | refine Kp.trans0 ?_ (by assumption) (by omega) | refine Kp.transS ?_ (by assumption) (by omega) (fun b hb hT => by first | omega | (dsimp only at hT ⊢; omega) | (simp only at hT ⊢; omega))) ) (Nat.le_refl _) (fun b _ e => by subst e; exact fp_p)) rfl⟩
set_option maxRecDepth 20000 in
theorem shRoom_c {lo nx : Nat} {H : AH} {p : Nat} {f : Fs} {L : Lay} (h : ShA lo nx H p f L) (n : Int) :
    ACalls Try.prog lo 18 #[.pointer (some ⟨p, 0, none⟩), .int .i64 n] H nx (fun v H' nx' => v = .tuple #[] ∧ After lo nx H p f L { f with room := n } H' nx') := by
  refine acalls_of_awp L18 Try.func18 rfl (by kernel_rfl) ?_
  obtain ⟨l1, l2⟩ := h.ltp
  have c3 := h.c3
  simp (disch := omega) only [go_sem, ↓reduceIte , c3, Option.isSome_some, true_and]
  have := h.putRoom n
  exact ⟨L, .inPlace this (Kp.mono (T := fpS p f L) (show Kp (fun b => b = p) nx H _ from (by repeat first | exact Kp.refl _ _ _ | refine Kp.dropT ?_ (.inl (by omega)) | refine Kp.put ?_ (.inl (by omega)) | refine Kp.new ?_ (by omega) | refine Kp.put ?_ (.inr (by omega)) | refine Kp.newO ?_ (by omega) | refine Kp.setO ?_ (.inl (by omega)) | refine Kp.setO ?_ (.inr (by omega)) | refine Kp.trans0 ?_ (by assumption) (by omega) | refine Kp.transS ?_ (by assumption) (by omega) (fun b hb hT => by first | omega | (dsimp only at hT ⊢; omega) | (simp only at hT ⊢; omega))) ) (Nat.le_refl _) (fun b _ e => by subst e; exact fp_p)) rfl⟩
set_option maxRecDepth 20000 in
theorem shMoves_c {lo nx : Nat} {H : AH} {p : Nat} {f : Fs} {L : Lay} (h : ShA lo nx H p f L) :
    ACalls Try.prog lo 24 #[.pointer (some ⟨p, 0, none⟩)] H nx (fun v H' nx' => v = .int .i64 f.moves.length ∧ H' = H ∧ nx' = nx) := by
  refine acalls_of_awp L24 Try.func24 rfl (by kernel_rfl) ?_
  obtain ⟨l1, l2⟩ := h.ltp
  obtain ⟨v, c2, hs⟩ := h.c2
  obtain ⟨a, c, rfl⟩ := hs.form
  simp (disch := omega) only [go_sem, ↓reduceIte , c2]
end Go.Proofs.Ytcdimjocdpogjaa
end
section
namespace Go.Proofs.Ytcdimjocdpogjaa
open Go.RowKit
set_option linter.unusedSimpArgs false

structure BoA (N lo nx : Nat) (H : AH) (p : Nat) (f : Fs) (L : Lay) (R : Rf) (k : Nat) : Prop where
  sh : ShA lo nx H p f L
  low : ∀ b, fpS p f L b → N ≤ b
  ra : RfA nx H R
  ro : RfOk R k
  fi : FsIn f k
  dj : ∀ b, fpR R b → ¬ fpS p f L b

section
variable {N lo nx : Nat} {H : AH} {p : Nat} {f : Fs} {L : Lay} {R : Rf} {k : Nat}
theorem BoA.kp (h : BoA N lo nx H p f L R k) {S : Nat → Prop} {nx' : Nat} {H' : AH} (hk : Kp S nx H H') (hn : nx ≤ nx') (h1 : ∀ b, fpS p f L b → ¬ S b) (h2 : ∀ b, fpR R b → ¬ S b) : BoA N lo nx' H' p f L R k :=
  ⟨h.sh.kp hk hn h1, h.low, h.ra.kp hk hn h2, h.ro, h.fi, h.dj⟩
theorem BoA.refAt (h : BoA N lo nx H p f L R k) {nx1 nx2 : Nat} {H1 H2 : AH} {f' : Fs} {L' : Lay} (k1 : Kp (fun _ => False) nx H H1) (n1 : nx ≤ nx1) (s2 : AfterL lo nx1 H1 p f L f' L' H2 nx2) : RfA nx2 H2 R :=
  (h.ra.kp k1 n1 (by simp)).kp s2.kp s2.le h.dj
theorem BoA.close (h : BoA N lo nx H p f L R k) (hN : N ≤ nx) {nx1 nx2 nx3 nx4 a c : Nat} {H1 H2 H3 H4 H5 : AH} {f' : Fs} {L' : Lay} {R' : Rf} (ha : nx ≤ a ∧ a < nx1) (hc : nx ≤ c ∧ c < nx1) (k1 : Kp (fun _ => False) nx H H1) (s2 : AfterL lo nx1 H1 p f L f' L' H2 nx2) (k3 : Kp (fun _ => False) nx2 H2 H3) (n3 : nx2 ≤ nx3)
    (s4 : StR nx3 H3 R k R' H4 nx4) (k5 : Kp (fun q => q = a ∨ q = c) nx4 H4 H5) (fi : FsIn f' (k + 1)) : nx ≤ nx4 ∧ Kp (fpS p f L) nx H H5 ∧ BoA N lo nx4 H5 p f' L' R' (k + 1) ∧ (∀ b, fpS p f' L' b → fpS p f L b ∨ nx ≤ b) ∧ ∀ b, fpR R' b → fpR R b ∨ nx ≤ b := by
  have n1 : nx ≤ nx1 := by omega
  have n2 := s2.le
  have n4 := s4.le
  have l1 : ∀ b, fpS p f L b → b < nx := fun b hb => h.sh.fp_lt hb
  have l2 : ∀ b, fpR R b → b < nx := fun b hb => h.ra.fp_lt hb
  have kk : Kp (fpS p f L) nx H H5 := by
    have e1 : Kp (fpS p f L) nx H H2 := Kp.trans (U := fpS p f L) k1 s2.kp n1 (fun _ _ e => e.elim) (fun _ _ e => e)
    have e2 : Kp (fpS p f L) nx H H3 := Kp.trans (U := fpS p f L) e1 k3 (by omega) (fun _ _ e => e) (fun _ _ e => e.elim)
    have e3 : Kp (fpS p f L) nx H H4 := Kp.trans (U := fpS p f L) e2 s4.kp (by omega) (fun _ _ e => e) (fun _ _ e => e.elim)
    exact Kp.trans (U := fpS p f L) e3 k5 (by omega) (fun _ _ e => e) (fun b hb e => by rcases e with rfl | rfl <;> omega)
  refine ⟨by omega, kk, ⟨?_, fun b hb => ?_, ?_, s4.ok, fi, fun b hb e => ?_⟩, fun b hb => ?_, fun b hb => ?_⟩
  · refine ((s2.sh.kp k3 n3 (by simp)).kp s4.kp s4.le (by simp)).kp k5 (Nat.le_refl _) fun b hb e => ?_
    rcases s2.fp b hb with g | g
    · have := l1 b g
      rcases e with rfl | rfl <;> omega
    · rcases e with rfl | rfl <;> omega
  · rcases s2.fp b hb with g | g
    · exact h.low b g
    · omega
  · refine s4.a.kp k5 (Nat.le_refl _) fun b hb e => ?_
    rcases s4.fp b hb with g | g
    · have := l2 b g
      rcases e with rfl | rfl <;> omega
    · rcases e with rfl | rfl <;> omega
  · rcases s4.fp b hb with g | g
    · have := l2 b g
      rcases s2.fp b e with g2 | g2
      · exact h.dj b g g2
      · omega
    · have := s2.sh.fp_lt e
      omega
  · rcases s2.fp b hb with g | g
    · exact .inl g
    · exact .inr (by omega)
  · rcases s4.fp b hb with g | g
    · exact .inl g
    · exact .inr (by omega)
end

theorem StR.tell {nx nx' : Nat} {H H' : AH} {R : Rf} {k : Nat} (l rm : Int) (hl : -1 ≤ l ∧ l ≤ 1000000) (h : RfA nx H R) (ho : RfOk R k) (hn : nx ≤ nx') (hk : Kp (fun _ => False) nx H H') : StR nx H R k { R with left := l, room := rm } H' nx' := by
  have s := StR.refl h ho hn hk
  exact ⟨hn, hk, ⟨s.a.sL, s.a.sF, s.a.sN, s.a.sW, s.a.sWs⟩, ⟨s.ok.now, s.ok.was, s.ok.one, s.ok.safe, s.ok.kn, s.ok.kw, s.ok.kws, s.ok.kf, s.ok.kb, hl.1, by have := hl.2; show l ≤ _; omega, s.ok.d0, s.ok.d1⟩, fun b hb => .inl hb⟩

/-- What an act leaves. -/
def DoP (N lo nx : Nat) (H : AH) (p : Nat) (f : Fs) (L : Lay) (R : Rf) (k : Nat) (a : Ac5) (c : Int) (v : Value) (H' : AH) (nx' : Nat) : Prop :=
  ∃ (R' : Rf) (g : Bool) (i : Nat) (L' : Lay), v = .tuple #[R'.val, .bool g] ∧ nx ≤ nx' ∧ Kp (fpS p f L) nx H H' ∧ BoA N lo nx' H' p (doF f c (nm6 a.A) (nm6 a.B) a.N a.B a.bs i) L' R' (k + 1) ∧ (∀ b, fpS p (doF f c (nm6 a.A) (nm6 a.B) a.N a.B a.bs i) L' b → fpS p f L b ∨ nx ≤ b) ∧ ∀ b, fpR R' b → fpR R b ∨ nx ≤ b
def Ac5.val (a : Ac5) : Value := .agg #[.int .u8 a.K, .int .u8 a.A, .int .u8 a.B, .int .i64 a.N, a.v]
theorem nm6_size (n : Int) : (nm6 n).size ≤ 1000 := by
  unfold nm6
  repeat' split
  all_goals decide
end Go.Proofs.Ytcdimjocdpogjaa
end
