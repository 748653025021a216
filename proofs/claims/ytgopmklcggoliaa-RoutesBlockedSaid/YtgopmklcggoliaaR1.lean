/- Prefixes, in our own logic: which one it is (the document's Bit, Of, Prefix as functions of their arguments alone). -/
import Derived.Test.YtgopmklcggoliaaG1
import Derived.Test.YtgopmklcggoliaaL16
namespace Go.Proofs.Ytgopmklcggoliaa
open Go.RowKit
set_option linter.unusedSimpArgs false

def bitR : Nat → Int → Bool
  | 0, a => decide (a % 2 = 1)
  | n + 1, a => bitR n (a / 2)

theorem bitR_c {lo : Nat} (a i : Int) (h0 : 0 ≤ a) (h1 : a ≤ 4294967295) (h2 : 0 ≤ i) (h3 : i ≤ 31) (H : AH) (nx : Nat) : ACalls Try.prog lo 52 #[.int .u32 a, .int .i64 i] H nx (fun v H' nx' => v = .bool (bitR (31 - i).toNat a) ∧ H' = H ∧ nx' = nx) := by
  refine acalls_of_awp L52 Try.func52 rfl (by kernel_rfl) ?_
  simp (disch := omega) only [go_sem, ↓reduceIte ]
  generalize hb : bitR (31 - i).toNat a = b0
  refine awp_loop (fun m env H1 nx1 => ∃ a i : Int, BitI H nx m env H1 nx1 a i ∧ bitR (31 - i).toNat a = b0) (31 - i).toNat ⟨a, i, ⟨rfl, h0, h1, h2, h3, rfl, rfl, rfl⟩, hb⟩ (fun m env H1 nx1 ⟨a, i, hI, hb⟩ hn => ?_)
  obtain ⟨henv, h0, h1, h2, h3, hm, hH, hx⟩ := hI
  subst henv; subst hH; subst hx
  by_cases h : i < 31
  · simp (disch := omega) only [go_sem, ↓reduceIte ]
    refine ⟨(31 - (i + 1)).toNat, by omega, a / 2, i + 1, ⟨rfl, by omega, by omega, by omega, by omega, rfl, rfl, rfl⟩, ?_⟩
    rw [← hb, show (31 - i).toNat = (31 - (i + 1)).toNat + 1 by omega]
    rfl
  · simp (disch := omega) only [go_sem, ↓reduceIte ]
    rw [← hb, show (31 - i).toNat = 0 by omega]
    rfl

def ofR (a n : Int) : Nat → Int
  | 0 => 0
  | i + 1 => ofR a n i * 2 + (if (i : Int) < n ∧ bitR (31 - (i : Int)).toNat a = true then 1 else 0)

structure OfRI (a n : Int) (p nx0 : Nat) (H0 : AH) (m : Nat) (env : Env) (H1 : AH) (nx1 : Nat) (i : Nat) : Prop where
  henv : env = [(0, .int .u32 a), (1, .int .u8 n), (4, .pointer (some ⟨p, 0, none⟩)), (5, .int .u32 (ofR a n i)), (6, .int .i64 i)]
  i1 : i ≤ 32
  hm : m = 32 - i
  hH : H1 = H0
  hx : nx1 = nx0

theorem ofR_range (a n : Int) : ∀ i, 0 ≤ ofR a n i ∧ ofR a n i < 2 ^ i
  | 0 => by simp [ofR]
  | i + 1 => by
    obtain ⟨h1, h2⟩ := ofR_range a n i
    have p1 : (2 : Int) ^ (i + 1) = 2 * 2 ^ i := by rw [Int.pow_succ]; omega
    rw [ofR, p1]
    split <;> omega
theorem ofR_low (a n : Int) (hn : 0 ≤ n) : ∀ i : Nat, n ≤ i → ofR a n i % 2 ^ ((i : Int) - n).toNat = 0
  | 0, h => by simp [ofR]
  | i + 1, h => by
    by_cases hi : n ≤ i
    · have ih := ofR_low a n hn i hi
      rw [ofR, if_neg (by omega), Int.add_zero, show (((i + 1 : Nat) : Int) - n).toNat = ((i : Int) - n).toNat + 1 by omega, Int.pow_succ]
      exact Int.emod_eq_zero_of_dvd (Int.mul_dvd_mul (Int.dvd_of_emod_eq_zero ih) (Int.dvd_refl 2))
    · rw [show (((i + 1 : Nat) : Int) - n).toNat = 0 by omega]
      simp

theorem ofR_c {lo : Nat} (a n : Int) (h0 : 0 ≤ a) (h1 : a ≤ 4294967295) (h2 : 0 ≤ n) (h3 : n ≤ 32) (H : AH) (nx : Nat) : ACalls Try.prog lo 35 #[.int .u32 a, .int .u8 n] H nx (fun v H' nx' => v = .agg #[.int .u32 (ofR a n 32), .int .u8 n] ∧ nx ≤ nx' ∧ Kp (fun _ => False) nx H H') := by
  refine ACalls.withLo fun hlo => ?_
  refine acalls_of_awp L35 Try.func35 rfl (by kernel_rfl) ?_
  simp (disch := omega) only [go_sem, ↓reduceIte ]
  intro p hp
  simp (disch := omega) only [go_sem, ↓reduceIte ]
  refine awp_loop (fun m env H1 nx1 => ∃ i, OfRI a n p (p + 1) (H.new p #[.int .u32 0, .int .u8 0] 39) m env H1 nx1 i) 32 ⟨0, ⟨rfl, by omega, rfl, rfl, rfl⟩⟩ (fun m env H1 nx1 ⟨i, hI⟩ hn => ?_)
  obtain ⟨henv, i1, hm, hH, hx⟩ := hI
  subst henv; subst hH; subst hx
  obtain ⟨r0, r1⟩ := ofR_range a n i
  by_cases h : i < 32
  · have hr : ofR a n i < 2147483648 := Int.lt_of_lt_of_le r1 (by
      have h2 : (2 : Nat) ^ i ≤ 2 ^ 31 := Nat.pow_le_pow_right (by omega) (by omega)
      have h3 : (2 : Int) ^ i = ((2 ^ i : Nat) : Int) := by simp
      rw [h3]; omega)
    by_cases hin : (i : Int) < n
    · simp (disch := omega) only [go_sem, ↓reduceIte ]
      refine (bitR_c a i h0 h1 (by omega) (by omega) _ _).mono fun v H' nx' _ ⟨hv, hH, hx⟩ => ?_
      subst hv; subst hH; subst hx
      cases hb : bitR (31 - (i : Int)).toNat a
      · simp (disch := omega) only [go_sem, ↓reduceIte ]
        refine ⟨32 - (i + 1), by omega, i + 1, ⟨?_, by omega, rfl, rfl, rfl⟩⟩
        rw [ofR, hb]
        simp
      · simp (disch := omega) only [go_sem, ↓reduceIte ]
        refine ⟨32 - (i + 1), by omega, i + 1, ⟨?_, by omega, rfl, rfl, rfl⟩⟩
        rw [ofR, hb]
        simp [hin]
    · simp (disch := omega) only [go_sem, ↓reduceIte ]
      refine ⟨32 - (i + 1), by omega, i + 1, ⟨?_, by omega, rfl, rfl, rfl⟩⟩
      rw [ofR]
      simp [hin]
  · obtain rfl : i = 32 := by omega
    simp (disch := omega) only [go_sem, ↓reduceIte ]
    exact ⟨by omega, (by repeat first | exact Kp.refl _ _ _ | refine Kp.dropT ?_ (.inl (by omega)) | refine Kp.put ?_ (.inl (by omega)) | refine Kp.new ?_ (by omega) | refine Kp.put ?_ (.inr (by omega)) | refine Kp.trans0 ?_ (by assumption) (by omega) | refine Kp.transS ?_ (by assumption) (by omega) (fun b hb hT => by first | omega | (dsimp only at hT ⊢; omega) | (simp only at hT ⊢; omega))) ⟩

/-- The prefix of a number. -/
def pfxN (a : Int) : Int := 8 + a / 6 % 3 * 8
def pfxA (a : Int) : Int := ofR (orI .u32 (orI .u32 167772160 (IntKind.u32.wrap (a % 3 * 2 ^ Int.toNat 16))) (IntKind.u32.wrap (a / 3 % 2 * 2 ^ Int.toNat 15))) (pfxN a) 32

theorem pfx_range (a : Int) : 0 ≤ pfxA a ∧ pfxA a ≤ 4294967295 ∧ 0 ≤ pfxN a ∧ pfxN a ≤ 32 ∧ pxRightC (pfxA a) (pfxN a) = true := by
  have h1 : 0 ≤ pfxN a ∧ pfxN a ≤ 32 := by unfold pfxN; omega
  obtain ⟨r0, r1⟩ := ofR_range (orI .u32 (orI .u32 167772160 (IntKind.u32.wrap (a % 3 * 2 ^ Int.toNat 16))) (IntKind.u32.wrap (a / 3 % 2 * 2 ^ Int.toNat 15))) (pfxN a) 32
  have r2 := ofR_low (orI .u32 (orI .u32 167772160 (IntKind.u32.wrap (a % 3 * 2 ^ Int.toNat 16))) (IntKind.u32.wrap (a / 3 % 2 * 2 ^ Int.toNat 15))) (pfxN a) h1.1 32 h1.2
  have e : (2 : Int) ^ 32 = 4294967296 := by decide
  have r3 : pfxA a ≤ 4294967295 := by unfold pfxA; omega
  exact ⟨r0, r3, h1.1, h1.2, pxRight_of r0 r3 h1.1 h1.2 r2⟩

theorem pfx_c {lo : Nat} (a : Int) (h0 : 0 ≤ a) (h1 : a ≤ 255) (H : AH) (nx : Nat) : ACalls Try.prog lo 16 #[.int .u8 a] H nx (fun v H' nx' => v = .agg #[.int .u32 (pfxA a), .int .u8 (pfxN a)] ∧ nx ≤ nx' ∧ Kp (fun _ => False) nx H H') := by
  refine ACalls.withLo fun hlo => ?_
  refine acalls_of_awp L16 Try.func16 rfl (by kernel_rfl) ?_
  simp (disch := omega) only [go_sem, ↓reduceIte ]
  intro p hp
  simp (disch := omega) only [go_sem, ↓reduceIte ]
  refine (ofR_c _ _ (orI_range _ _).1 (orI_range _ _).2 (by omega) (by omega) _ _).mono fun v H' nx' _ ⟨hv, hx, hk⟩ => ?_
  subst hv
  have hcc := hk.cell0
  simp (disch := omega) only [go_sem, ↓reduceIte , hcc]
  exact ⟨rfl, by omega, (by repeat first | exact Kp.refl _ _ _ | refine Kp.dropT ?_ (.inl (by omega)) | refine Kp.put ?_ (.inl (by omega)) | refine Kp.new ?_ (by omega) | refine Kp.put ?_ (.inr (by omega)) | refine Kp.trans0 ?_ (by assumption) (by omega) | refine Kp.transS ?_ (by assumption) (by omega) (fun b hb hT => by first | omega | (dsimp only at hT ⊢; omega) | (simp only at hT ⊢; omega))) ⟩
end Go.Proofs.Ytgopmklcggoliaa
