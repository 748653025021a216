/- Prefixes, in our own logic: mask, Right; the document's Bit, Of. -/
import Derived.Test.YtngnbafididkcaaGreatFacts
namespace Go.Proofs.YtngnbafididkcaaGreat
open Go.RowKit
set_option linter.unusedSimpArgs false

def maskC (n : Int) : Int := if n = 0 then 0 else IntKind.u32.wrap (4294967295 * 2 ^ (32 - n).toNat)

theorem mask_c {lo : Nat} (n : Int) (h0 : 0 ≤ n) (h1 : n ≤ 32) (H : AH) (nx : Nat) : ACalls Tryz.prog lo 109 #[.int .u8 n] H nx (fun v H' nx' => v = .int .u32 (maskC n) ∧ H' = H ∧ nx' = nx) := by
  refine acalls_of_awp L109 Tryz.func109 rfl (by kernel_rfl) ?_
  by_cases h : n = 0
  · simp (disch := omega) only [go_sem, ↓reduceIte , h]
    simp [maskC]
  · simp (disch := omega) only [go_sem, ↓reduceIte ]
    simp [maskC, h]

def pxRightC (a n : Int) : Bool := decide (n ≤ 32) && decide (andNotI .u32 a (maskC n) = 0)

theorem pxRight_c {lo : Nat} (a n : Int) (h0 : 0 ≤ n) (H : AH) (nx : Nat) : ACalls Tryz.prog lo 73 #[.agg #[.int .u32 a, .int .u8 n]] H nx (fun v H' nx' => v = .bool (pxRightC a n) ∧ nx ≤ nx' ∧ Kp (fun _ => False) nx H H') := by
  refine ACalls.withLo fun hlo => ?_
  refine acalls_of_awp L73 Tryz.func73 rfl (by kernel_rfl) ?_
  simp (disch := omega) only [go_sem, ↓reduceIte ]
  intro b hb
  simp (disch := omega) only [go_sem, ↓reduceIte ]
  refine awp_draw ord73x1 (by kernel_rfl) ?_
  by_cases h : n ≤ 32
  · simp (disch := omega) only [go_sem, ↓reduceIte , ord73x1, h]
    refine (mask_c n h0 h _ _).mono fun v H' nx' _ ⟨hv, hH, hx⟩ => ?_
    subst hv; subst hH; subst hx
    simp (disch := omega) only [go_sem, ↓reduceIte ]
    refine ⟨?_, by omega, (by repeat first | exact Kp.refl _ _ _ | refine Kp.dropT ?_ (.inl (by omega)) | refine Kp.put ?_ (.inl (by omega)) | refine Kp.new ?_ (by omega) | refine Kp.put ?_ (.inr (by omega)) | refine Kp.newO ?_ (by omega) | refine Kp.setO ?_ (.inl (by omega)) | refine Kp.setO ?_ (.inr (by omega)) | refine Kp.trans0 ?_ (by assumption) (by omega) | refine Kp.transS ?_ (by assumption) (by omega) (fun b hb hT => by first | omega | (dsimp only at hT ⊢; omega) | (simp only at hT ⊢; omega))) ⟩
    simp [pxRightC, h]
  · simp (disch := omega) only [go_sem, ↓reduceIte , ord73x1, h]
    refine ⟨?_, by omega, (by repeat first | exact Kp.refl _ _ _ | refine Kp.dropT ?_ (.inl (by omega)) | refine Kp.put ?_ (.inl (by omega)) | refine Kp.new ?_ (by omega) | refine Kp.put ?_ (.inr (by omega)) | refine Kp.newO ?_ (by omega) | refine Kp.setO ?_ (.inl (by omega)) | refine Kp.setO ?_ (.inr (by omega)) | refine Kp.trans0 ?_ (by assumption) (by omega) | refine Kp.transS ?_ (by assumption) (by omega) (fun b hb hT => by first | omega | (dsimp only at hT ⊢; omega) | (simp only at hT ⊢; omega))) ⟩
    simp [pxRightC, h]

structure BitI (H0 : AH) (nx0 m : Nat) (env : Env) (H1 : AH) (nx1 : Nat) (a i : Int) : Prop where
  henv : env = [(0, .int .u32 a), (1, .int .i64 i)]
  a0 : 0 ≤ a
  a1 : a ≤ 4294967295
  i0 : 0 ≤ i
  i1 : i ≤ 31
  hm : m = (31 - i).toNat
  hH : H1 = H0
  hx : nx1 = nx0

theorem bit_c {lo : Nat} (a i : Int) (h0 : 0 ≤ a) (h1 : a ≤ 4294967295) (h2 : 0 ≤ i) (h3 : i ≤ 31) (H : AH) (nx : Nat) : ACalls Tryz.prog lo 74 #[.int .u32 a, .int .i64 i] H nx (fun v H' nx' => (∃ b, v = .bool b) ∧ H' = H ∧ nx' = nx) := by
  refine acalls_of_awp L74 Tryz.func74 rfl (by kernel_rfl) ?_
  simp (disch := omega) only [go_sem, ↓reduceIte ]
  refine awp_loop (fun m env H1 nx1 => ∃ a i : Int, BitI H nx m env H1 nx1 a i) (31 - i).toNat ⟨a, i, ⟨rfl, h0, h1, h2, h3, rfl, rfl, rfl⟩⟩ (fun m env H1 nx1 ⟨a, i, hI⟩ hn => ?_)
  obtain ⟨henv, h0, h1, h2, h3, hm, hH, hx⟩ := hI
  subst henv; subst hH; subst hx
  by_cases h : i < 31
  · simp (disch := omega) only [go_sem, ↓reduceIte ]
    exact ⟨(31 - (i + 1)).toNat, by omega, a / 2, i + 1, ⟨rfl, by omega, by omega, by omega, by omega, rfl, rfl, rfl⟩⟩
  · simp (disch := omega) only [go_sem, ↓reduceIte ]
    exact ⟨_, rfl⟩

structure OfI (a n : Int) (p nx0 : Nat) (H0 : AH) (m : Nat) (env : Env) (H1 : AH) (nx1 : Nat) (i r : Int) : Prop where
  henv : env = [(0, .int .u32 a), (1, .int .u8 n), (4, .pointer (some ⟨p, 0, none⟩)), (5, .int .u32 r), (6, .int .i64 i)]
  i0 : 0 ≤ i
  i1 : i ≤ 32
  r0 : 0 ≤ r
  r1 : r < 2 ^ i.toNat
  r2 : n ≤ i → r % 2 ^ (i - n).toNat = 0
  hm : m = (32 - i).toNat
  hH : H1 = H0
  hx : nx1 = nx0

theorem of_c {lo : Nat} (a n : Int) (h0 : 0 ≤ a) (h1 : a ≤ 4294967295) (h2 : 0 ≤ n) (h3 : n ≤ 32) (H : AH) (nx : Nat) : ACalls Tryz.prog lo 59 #[.int .u32 a, .int .u8 n] H nx (fun v H' nx' => ∃ r, v = .agg #[.int .u32 r, .int .u8 n] ∧ 0 ≤ r ∧ r ≤ 4294967295 ∧ r % 2 ^ (32 - n).toNat = 0 ∧ nx ≤ nx' ∧ Kp (fun _ => False) nx H H') := by
  refine ACalls.withLo fun hlo => ?_
  refine acalls_of_awp L59 Tryz.func59 rfl (by kernel_rfl) ?_
  simp (disch := omega) only [go_sem, ↓reduceIte ]
  intro p hp
  simp (disch := omega) only [go_sem, ↓reduceIte ]
  refine awp_loop (fun m env H1 nx1 => ∃ i r, OfI a n p (p + 1) (H.new p #[.int .u32 0, .int .u8 0] 30) m env H1 nx1 i r) 32 ⟨0, 0, ⟨rfl, by omega, by omega, by omega, by decide, by simp, rfl, rfl, rfl⟩⟩ (fun m env H1 nx1 ⟨i, r, hI⟩ hn => ?_)
  obtain ⟨henv, i0, i1, r0, r1, r2, hm, hH, hx⟩ := hI
  subst henv; subst hH; subst hx
  have e2 : (2 : Int) ^ 32 = 4294967296 := by decide
  by_cases h : i < 32
  · have hr : r < 2147483648 := Int.lt_of_lt_of_le r1 (by
      have h2 : (2 : Nat) ^ i.toNat ≤ 2 ^ 31 := Nat.pow_le_pow_right (by omega) (by omega)
      have h3 : (2 : Int) ^ i.toNat = ((2 ^ i.toNat : Nat) : Int) := by simp
      rw [h3]; omega)
    have p1 : (2 : Int) ^ (i + 1).toNat = 2 * 2 ^ i.toNat := by rw [show (i + 1).toNat = i.toNat + 1 by omega, Int.pow_succ]; omega
    by_cases hin : i < n
    · simp (disch := omega) only [go_sem, ↓reduceIte ]
      refine (bit_c a i h0 h1 i0 (by omega) _ _).mono fun v H' nx' _ ⟨⟨b, hv⟩, hH, hx⟩ => ?_
      subst hv; subst hH; subst hx
      cases b
      · simp (disch := omega) only [go_sem, ↓reduceIte ]
        refine ⟨(32 - (i + 1)).toNat, by omega, i + 1, r * 2, ⟨rfl, by omega, by omega, by omega, by omega, fun hni => (by rw [show (i + 1 - n).toNat = 0 by omega]; simp), rfl, rfl, rfl⟩⟩
      · simp (disch := omega) only [go_sem, ↓reduceIte ]
        refine ⟨(32 - (i + 1)).toNat, by omega, i + 1, r * 2 + 1, ⟨rfl, by omega, by omega, by omega, by omega, fun hni => (by rw [show (i + 1 - n).toNat = 0 by omega]; simp), rfl, rfl, rfl⟩⟩
    · simp (disch := omega) only [go_sem, ↓reduceIte ]
      refine ⟨(32 - (i + 1)).toNat, by omega, i + 1, r * 2, ⟨rfl, by omega, by omega, by omega, by omega, fun hni => ?_, rfl, rfl, rfl⟩⟩
      have := r2 (by omega)
      rw [show (i + 1 - n).toNat = (i - n).toNat + 1 by omega, Int.pow_succ]
      exact Int.emod_eq_zero_of_dvd (Int.mul_dvd_mul (Int.dvd_of_emod_eq_zero this) (Int.dvd_refl 2))
  · obtain rfl : i = 32 := by omega
    simp (disch := omega) only [go_sem, ↓reduceIte ]
    refine ⟨r, rfl, r0, ?_, r2 h3, by omega, (by repeat first | exact Kp.refl _ _ _ | refine Kp.dropT ?_ (.inl (by omega)) | refine Kp.put ?_ (.inl (by omega)) | refine Kp.new ?_ (by omega) | refine Kp.put ?_ (.inr (by omega)) | refine Kp.newO ?_ (by omega) | refine Kp.setO ?_ (.inl (by omega)) | refine Kp.setO ?_ (.inr (by omega)) | refine Kp.trans0 ?_ (by assumption) (by omega) | refine Kp.transS ?_ (by assumption) (by omega) (fun b hb hT => by first | omega | (dsimp only at hT ⊢; omega) | (simp only at hT ⊢; omega))) ⟩
    simp at r1; omega

theorem andNot_zero {r n : Int} (h0 : 0 ≤ r) (h1 : r ≤ 4294967295) (h2 : 0 ≤ n) (h3 : n ≤ 32) (h : r % 2 ^ (32 - n).toNat = 0) : andNotI .u32 r (maskC n) = 0 := by
  obtain ⟨m, hm, hm32⟩ : ∃ m : Nat, (32 - n).toNat = m ∧ m ≤ 32 := ⟨_, rfl, by omega⟩
  rw [hm] at h
  obtain ⟨a, rfl⟩ : ∃ a : Nat, r = a := ⟨r.toNat, by omega⟩
  have ha : a % 2 ^ m = 0 := by
    have : ((a % 2 ^ m : Nat) : Int) = 0 := by simpa using h
    omega
  have hk : ~~~(BitVec.ofInt 32 (maskC n)) = BitVec.ofNat 32 (2 ^ m - 1) := by
    have hn : n = 32 - (m : Int) := by omega
    subst hn
    rcases Nat.eq_zero_or_pos (32 - m) with hz | hz
    · have : m = 32 := by omega
      subst this
      decide
    · have key : ∀ m : Fin 32, ~~~(BitVec.ofInt 32 (maskC (32 - (m.val : Int)))) = BitVec.ofNat 32 (2 ^ m.val - 1) := by decide
      exact key ⟨m, by omega⟩
  show IntKind.u32.wrap ((BitVec.ofInt 32 (a : Int) &&& ~~~(BitVec.ofInt 32 (maskC n))).toNat) = 0
  rw [hk, BitVec.toNat_and]
  have e1 : (BitVec.ofInt 32 (a : Int)).toNat = a := by
    simp; omega
  have e2 : (BitVec.ofNat 32 (2 ^ m - 1)).toNat = 2 ^ m - 1 := by
    have : 2 ^ m ≤ 2 ^ 32 := Nat.pow_le_pow_right (by omega) hm32
    simp; omega
  rw [e1, e2, Nat.and_two_pow_sub_one_eq_mod, ha]
  decide

theorem pxRight_of {r n : Int} (h0 : 0 ≤ r) (h1 : r ≤ 4294967295) (h2 : 0 ≤ n) (h3 : n ≤ 32) (h : r % 2 ^ (32 - n).toNat = 0) : pxRightC r n = true := by
  simp [pxRightC, h3, andNot_zero h0 h1 h2 h3 h]

theorem orI_range (a b : Int) : 0 ≤ orI .u32 a b ∧ orI .u32 a b ≤ 4294967295 := wrap_u32_range _

theorem prefix07_c {lo : Nat} (a : Int) (h0 : 0 ≤ a) (h1 : a ≤ 255) (H : AH) (nx : Nat) : ACalls Tryz.prog lo 19 #[.int .u8 a] H nx (fun v H' nx' => ∃ r n, v = .agg #[.int .u32 r, .int .u8 n] ∧ 0 ≤ r ∧ r ≤ 4294967295 ∧ 0 ≤ n ∧ n ≤ 32 ∧ pxRightC r n = true ∧ nx ≤ nx' ∧ Kp (fun _ => False) nx H H') := by
  refine ACalls.withLo fun hlo => ?_
  refine acalls_of_awp L19 Tryz.func19 rfl (by kernel_rfl) ?_
  simp (disch := omega) only [go_sem, ↓reduceIte ]
  intro p hp
  simp (disch := omega) only [go_sem, ↓reduceIte ]
  refine (of_c _ _ (orI_range _ _).1 (orI_range _ _).2 (by omega) (by omega) _ _).mono fun v H' nx' _ ⟨r, hv, r0, r1, r2, hx, hk⟩ => ?_
  subst hv
  have hcc := hk.cell0
  simp (disch := omega) only [go_sem, ↓reduceIte , hcc]
  exact ⟨r, _, rfl, r0, r1, by omega, by omega, pxRight_of r0 r1 (by omega) (by omega) r2, by omega, (by repeat first | exact Kp.refl _ _ _ | refine Kp.dropT ?_ (.inl (by omega)) | refine Kp.put ?_ (.inl (by omega)) | refine Kp.new ?_ (by omega) | refine Kp.put ?_ (.inr (by omega)) | refine Kp.newO ?_ (by omega) | refine Kp.setO ?_ (.inl (by omega)) | refine Kp.setO ?_ (.inr (by omega)) | refine Kp.trans0 ?_ (by assumption) (by omega) | refine Kp.transS ?_ (by assumption) (by omega) (fun b hb hT => by first | omega | (dsimp only at hT ⊢; omega) | (simp only at hT ⊢; omega))) ⟩
end Go.Proofs.YtngnbafididkcaaGreat
