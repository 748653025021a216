/- Engine: a nil one; Id: in our own logic. The reference's Right. EngineBegins: in plain words. -/
import Derived.Test.YtngnbafididkcaaGreatN9
import Derived.Test.YtngnbafididkcaaGreatG1
import Derived.Test.YtngnbafididkcaaGreatA4
import Derived.Test.YtngnbafididkcaaGreatN25
section
namespace Go.Proofs.YtngnbafididkcaaGreat
open Go.RowKit
set_option linter.unusedSimpArgs false

section
variable {lo nx : Nat} {H : AH}
set_option maxRecDepth 20000 in
theorem enil_hear (v w z : Value) : ACalls Tryz.prog lo 15 #[.pointer none, .agg #[v, w], z, .int .u64 9] H nx (fun v H' nx' => v = .tuple #[] ∧ nx ≤ nx' ∧ Kp (fun _ => False) nx H H') := by
  refine ACalls.withLo fun hlo => ?_
  refine acalls_of_awp L15 Tryz.func15 rfl (by kernel_rfl) ?_
  simp (disch := omega) only [go_sem, ↓reduceIte ]
  intro b hb
  simp (disch := omega) only [go_sem, ↓reduceIte ]
  refine awp_draw ord15x1 (by kernel_rfl) ?_
  simp (disch := omega) only [go_sem, ↓reduceIte , ord15x1]
  exact ⟨by omega, (by repeat first | exact Kp.refl _ _ _ | refine Kp.dropT ?_ (.inl (by omega)) | refine Kp.put ?_ (.inl (by omega)) | refine Kp.new ?_ (by omega) | refine Kp.put ?_ (.inr (by omega)) | refine Kp.newO ?_ (by omega) | refine Kp.setO ?_ (.inl (by omega)) | refine Kp.setO ?_ (.inr (by omega)) | refine Kp.trans0 ?_ (by assumption) (by omega) | refine Kp.transS ?_ (by assumption) (by omega) (fun b hb hT => by first | omega | (dsimp only at hT ⊢; omega) | (simp only at hT ⊢; omega))) ⟩
set_option maxRecDepth 20000 in
theorem enil_bad : ACalls Tryz.prog lo 25 #[.pointer none] H nx (fun v H' nx' => v = .tuple #[] ∧ H' = H ∧ nx' = nx) := by
  refine acalls_of_awp L25 Tryz.func25 rfl (by kernel_rfl) ?_
  simp (disch := omega) only [go_sem, ↓reduceIte ]
set_option maxRecDepth 20000 in
theorem enil_tick (z : Value) : ACalls Tryz.prog lo 31 #[.pointer none, z] H nx (fun v H' nx' => v = .tuple #[] ∧ nx ≤ nx' ∧ Kp (fun _ => False) nx H H') := by
  refine ACalls.withLo fun hlo => ?_
  refine acalls_of_awp L31 Tryz.func31 rfl (by kernel_rfl) ?_
  simp (disch := omega) only [go_sem, ↓reduceIte ]
  exact ⟨Nat.le_refl _, Kp.refl _ _ _⟩
set_option maxRecDepth 20000 in
theorem enil_tell (z w : Value) : ACalls Tryz.prog lo 28 #[.pointer none, z, w] H nx (fun v H' nx' => v = .tuple #[.agg #[.int .i64 0, .slice none 0 0], .bool false] ∧ nx ≤ nx' ∧ Kp (fun _ => False) nx H H') := by
  refine ACalls.withLo fun hlo => ?_
  refine acalls_of_awp L28 Tryz.func28 rfl (by kernel_rfl) ?_
  simp (disch := omega) only [go_sem, ↓reduceIte ]
  intro b hb
  simp (disch := omega) only [go_sem, ↓reduceIte ]
  exact ⟨by omega, (by repeat first | exact Kp.refl _ _ _ | refine Kp.dropT ?_ (.inl (by omega)) | refine Kp.put ?_ (.inl (by omega)) | refine Kp.new ?_ (by omega) | refine Kp.put ?_ (.inr (by omega)) | refine Kp.newO ?_ (by omega) | refine Kp.setO ?_ (.inl (by omega)) | refine Kp.setO ?_ (.inr (by omega)) | refine Kp.trans0 ?_ (by assumption) (by omega) | refine Kp.transS ?_ (by assumption) (by omega) (fun b hb hT => by first | omega | (dsimp only at hT ⊢; omega) | (simp only at hT ⊢; omega))) ⟩
set_option maxRecDepth 20000 in
theorem enil_mark (a n : Int) : ACalls Tryz.prog lo 23 #[.pointer none, .agg #[.int .u32 a, .int .u8 n]] H nx (fun v H' nx' => v = .tuple #[.agg #[.int .u16 0, .int .u16 0], .bool false] ∧ nx ≤ nx' ∧ Kp (fun _ => False) nx H H') := by
  refine ACalls.withLo fun hlo => ?_
  refine acalls_of_awp L23 Tryz.func23 rfl (by kernel_rfl) ?_
  simp (disch := omega) only [go_sem, ↓reduceIte ]
  intro b hb
  simp (disch := omega) only [go_sem, ↓reduceIte ]
  intro d hd
  simp (disch := omega) only [go_sem, ↓reduceIte ]
  exact ⟨by omega, (by repeat first | exact Kp.refl _ _ _ | refine Kp.dropT ?_ (.inl (by omega)) | refine Kp.put ?_ (.inl (by omega)) | refine Kp.new ?_ (by omega) | refine Kp.put ?_ (.inr (by omega)) | refine Kp.newO ?_ (by omega) | refine Kp.setO ?_ (.inl (by omega)) | refine Kp.setO ?_ (.inr (by omega)) | refine Kp.trans0 ?_ (by assumption) (by omega) | refine Kp.transS ?_ (by assumption) (by omega) (fun b hb hT => by first | omega | (dsimp only at hT ⊢; omega) | (simp only at hT ⊢; omega))) ⟩
set_option maxRecDepth 20000 in
theorem enil_chosen : ACalls Tryz.prog lo 38 #[.pointer none] H nx (fun v H' nx' => v = .slice none 0 0 ∧ H' = H ∧ nx' = nx) := by
  refine acalls_of_awp L38 Tryz.func38 rfl (by kernel_rfl) ?_
  simp (disch := omega) only [go_sem, ↓reduceIte ]
set_option maxRecDepth 20000 in
theorem enil_route (a n : Int) : ACalls Tryz.prog lo 18 #[.pointer none, .agg #[.int .u32 a, .int .u8 n]] H nx (fun v H' nx' => v = .tuple #[.agg #[.int .u32 0, .int .u8 0, .int .i64 0, .int .u16 0, .int .u16 0], .bool false] ∧ nx ≤ nx' ∧ Kp (fun _ => False) nx H H') := by
  refine ACalls.withLo fun hlo => ?_
  refine acalls_of_awp L18 Tryz.func18 rfl (by kernel_rfl) ?_
  simp (disch := omega) only [go_sem, ↓reduceIte ]
  intro b3 h3
  simp (disch := omega) only [go_sem, ↓reduceIte ]
  intro b4 h4
  simp (disch := omega) only [go_sem, ↓reduceIte ]
  refine enil_chosen.mono fun v H1 nx1 _ ⟨hv, hH, hx⟩ => ?_
  subst hv; subst hH; subst hx
  simp (disch := omega) only [go_sem, ↓reduceIte ]
  refine awp_loop (fun m env H' nx' => env = [(3, .pointer (some ⟨b3, 0, none⟩)), (4, .pointer (some ⟨b4, 0, none⟩)), (9, .slice none 0 0), (10, .int .i64 ((0 : Nat) : Int)), (11, .int .i64 0)] ∧ H' = (H.new b3 #[.int .u32 a, .int .u8 n] 30).new b4 #[.int .u32 0, .int .u8 0, .int .i64 0, .int .u16 0, .int .u16 0] 40 ∧ nx' = b4 + 1) 0 ⟨rfl, rfl, rfl⟩ (fun m env H4 nx4 ⟨henv, hH, hx⟩ hn => ?_)
  subst henv; subst hH; subst hx
  simp (disch := omega) only [go_sem, ↓reduceIte ]
  exact ⟨by omega, (by repeat first | exact Kp.refl _ _ _ | refine Kp.dropT ?_ (.inl (by omega)) | refine Kp.put ?_ (.inl (by omega)) | refine Kp.new ?_ (by omega) | refine Kp.put ?_ (.inr (by omega)) | refine Kp.newO ?_ (by omega) | refine Kp.setO ?_ (.inl (by omega)) | refine Kp.setO ?_ (.inr (by omega)) | refine Kp.trans0 ?_ (by assumption) (by omega) | refine Kp.transS ?_ (by assumption) (by omega) (fun b hb hT => by first | omega | (dsimp only at hT ⊢; omega) | (simp only at hT ⊢; omega))) ⟩
set_option maxRecDepth 20000 in
theorem enil_select : ACalls Tryz.prog lo 17 #[.pointer none] H nx (fun v H' nx' => v = .slice none 0 0 ∧ nx ≤ nx' ∧ Kp (fun _ => False) nx H H') := by
  refine ACalls.withLo fun hlo => ?_
  refine acalls_of_awp L17 Tryz.func17 rfl (by kernel_rfl) ?_
  simp (disch := omega) only [go_sem, ↓reduceIte ]
  intro b hb
  simp (disch := omega) only [go_sem, ↓reduceIte ]
  exact ⟨by omega, (by repeat first | exact Kp.refl _ _ _ | refine Kp.dropT ?_ (.inl (by omega)) | refine Kp.put ?_ (.inl (by omega)) | refine Kp.new ?_ (by omega) | refine Kp.put ?_ (.inr (by omega)) | refine Kp.newO ?_ (by omega) | refine Kp.setO ?_ (.inl (by omega)) | refine Kp.setO ?_ (.inr (by omega)) | refine Kp.trans0 ?_ (by assumption) (by omega) | refine Kp.transS ?_ (by assumption) (by omega) (fun b hb hT => by first | omega | (dsimp only at hT ⊢; omega) | (simp only at hT ⊢; omega))) ⟩
set_option maxRecDepth 20000 in
theorem enil_links : ACalls Tryz.prog lo 32 #[.pointer none] H nx (fun v H' nx' => v = .slice none 0 0 ∧ nx ≤ nx' ∧ Kp (fun _ => False) nx H H') := by
  refine ACalls.withLo fun hlo => ?_
  refine acalls_of_awp L32 Tryz.func32 rfl (by kernel_rfl) ?_
  simp (disch := omega) only [go_sem, ↓reduceIte ]
  exact ⟨Nat.le_refl _, Kp.refl _ _ _⟩
set_option maxRecDepth 20000 in
theorem enil_id : ACalls Tryz.prog lo 37 #[.pointer none] H nx (fun v H' nx' => v = .int .i64 0 ∧ H' = H ∧ nx' = nx) := by
  refine acalls_of_awp L37 Tryz.func37 rfl (by kernel_rfl) ?_
  simp (disch := omega) only [go_sem, ↓reduceIte ]
set_option maxRecDepth 20000 in
theorem eid_c {p : Nat} {e : Eng} {y : ELay} {col : Nat → Nat} (hA : EngA lo nx H p e y col) : ACalls Tryz.prog lo 37 #[.pointer (some ⟨p, 0, none⟩)] H nx (fun v H' nx' => v = .int .i64 e.id ∧ H' = H ∧ nx' = nx) := by
  refine acalls_of_awp L37 Tryz.func37 rfl (by kernel_rfl) ?_
  have c0 := hA.c.c0
  simp (disch := omega) only [go_sem, ↓reduceIte , c0]
set_option maxRecDepth 20000 in
theorem enil_counts : ACalls Tryz.prog lo 27 #[.pointer none] H nx (fun v H' nx' => v = .agg #[.int .i64 0, .int .i64 0, .int .i64 0, .int .i64 0] ∧ nx ≤ nx' ∧ Kp (fun _ => False) nx H H') := by
  refine ACalls.withLo fun hlo => ?_
  refine acalls_of_awp L27 Tryz.func27 rfl (by kernel_rfl) ?_
  simp (disch := omega) only [go_sem, ↓reduceIte ]
  intro b hb
  simp (disch := omega) only [go_sem, ↓reduceIte ]
  exact ⟨by omega, (by repeat first | exact Kp.refl _ _ _ | refine Kp.dropT ?_ (.inl (by omega)) | refine Kp.put ?_ (.inl (by omega)) | refine Kp.new ?_ (by omega) | refine Kp.put ?_ (.inr (by omega)) | refine Kp.newO ?_ (by omega) | refine Kp.setO ?_ (.inl (by omega)) | refine Kp.setO ?_ (.inr (by omega)) | refine Kp.trans0 ?_ (by assumption) (by omega) | refine Kp.transS ?_ (by assumption) (by omega) (fun b hb hT => by first | omega | (dsimp only at hT ⊢; omega) | (simp only at hT ⊢; omega))) ⟩
end
end Go.Proofs.YtngnbafididkcaaGreat
end
section
namespace Go.Proofs.YtngnbafididkcaaGreat
open Go.RowKit
set_option linter.unusedSimpArgs false

theorem andNot_val {a : Nat} {n : Int} (h1 : (a : Int) ≤ 4294967295) (h2 : 0 ≤ n) (h3 : n ≤ 32) : andNotI .u32 (a : Int) (maskC n) = ((a % 2 ^ (32 - n).toNat : Nat) : Int) := by
  obtain ⟨m, hm, hm32⟩ : ∃ m : Nat, (32 - n).toNat = m ∧ m ≤ 32 := ⟨_, rfl, by omega⟩
  rw [hm]
  have hk : ~~~(BitVec.ofInt 32 (maskC n)) = BitVec.ofNat 32 (2 ^ m - 1) := by
    have hn : n = 32 - (m : Int) := by omega
    subst hn
    rcases Nat.eq_zero_or_pos (32 - m) with hz | hz
    · have : m = 32 := by omega
      subst this
      decide
    · have key : ∀ m : Fin 32, ~~~(BitVec.ofInt 32 (maskC (32 - (m.val : Int)))) = BitVec.ofNat 32 (2 ^ m.val - 1) := by decide
      exact key ⟨m, by omega⟩
  show IntKind.u32.wrap ((BitVec.ofInt 32 (a : Int) &&& ~~~(BitVec.ofInt 32 (maskC n))).toNat) = _
  rw [hk, BitVec.toNat_and]
  have e1 : (BitVec.ofInt 32 (a : Int)).toNat = a := by
    simp; omega
  have e2 : (BitVec.ofNat 32 (2 ^ m - 1)).toNat = 2 ^ m - 1 := by
    have : 2 ^ m ≤ 2 ^ 32 := Nat.pow_le_pow_right (by omega) hm32
    simp; omega
  rw [e1, e2, Nat.and_two_pow_sub_one_eq_mod]
  have h4 : a % 2 ^ m ≤ a := Nat.mod_le _ _
  generalize a % 2 ^ m = b at h4
  have : ((b : Nat) : Int) ≤ 4294967295 := by omega
  show (b : Int) % 4294967296 = b
  omega
def bitV (a i : Int) : Bool := decide (a / 2 ^ (31 - i).toNat % 2 = 1)
structure BitI2 (H0 : AH) (nx0 m : Nat) (env : Env) (H1 : AH) (nx1 : Nat) (b : Bool) (a i : Int) : Prop where
  henv : env = [(0, .int .u32 a), (1, .int .i64 i)]
  a0 : 0 ≤ a
  a1 : a ≤ 4294967295
  i0 : 0 ≤ i
  i1 : i ≤ 31
  hm : m = (31 - i).toNat
  hH : H1 = H0
  hx : nx1 = nx0
  hb : bitV a i = b
theorem bit_c2 {lo : Nat} (a i : Int) (h0 : 0 ≤ a) (h1 : a ≤ 4294967295) (h2 : 0 ≤ i) (h3 : i ≤ 31) (H : AH) (nx : Nat) : ACalls Tryz.prog lo 74 #[.int .u32 a, .int .i64 i] H nx (fun v H' nx' => v = .bool (bitV a i) ∧ H' = H ∧ nx' = nx) := by
  refine acalls_of_awp L74 Tryz.func74 rfl (by kernel_rfl) ?_
  generalize hb : bitV a i = b
  simp (disch := omega) only [go_sem, ↓reduceIte ]
  refine awp_loop (fun m env H1 nx1 => ∃ a i : Int, BitI2 H nx m env H1 nx1 b a i) (31 - i).toNat ⟨a, i, ⟨rfl, h0, h1, h2, h3, rfl, rfl, rfl, hb⟩⟩ (fun m env H1 nx1 ⟨a, i, hI⟩ hn => ?_)
  obtain ⟨henv, h0, h1, h2, h3, hm, hH, hx, hb⟩ := hI
  subst henv; subst hH; subst hx
  by_cases h : i < 31
  · simp (disch := omega) only [go_sem, ↓reduceIte ]
    refine ⟨(31 - (i + 1)).toNat, by omega, a / 2, i + 1, ⟨rfl, by omega, by omega, by omega, by omega, rfl, rfl, rfl, ?_⟩⟩
    rw [← hb]
    unfold bitV
    rw [show (31 - i).toNat = (31 - (i + 1)).toNat + 1 by omega, Int.pow_succ, Int.mul_comm (2 ^ _) 2, show ∀ k : Int, a / (2 * k) = a / 2 / k from fun k => by rw [Int.ediv_ediv, if_neg (by omega), Int.sub_zero]]
  · have : i = 31 := by omega
    subst this
    simp (disch := omega) only [go_sem, ↓reduceIte ]
    rw [← hb]
    unfold bitV
    simp
theorem bit_step (a : Nat) {i : Int} (h0 : 0 ≤ i) (h : i < 32) : (a % 2 ^ (32 - i).toNat = 0) ↔ (bitV (a : Int) i = false ∧ a % 2 ^ (32 - (i + 1)).toNat = 0) := by
  have hq : (2 : Nat) ^ (32 - i).toNat = 2 ^ (32 - (i + 1)).toNat * 2 := by rw [show (32 - i).toNat = (32 - (i + 1)).toNat + 1 by omega, Nat.pow_succ]
  have hp : 0 < (2 : Nat) ^ (32 - (i + 1)).toNat := Nat.pow_pos (by omega)
  have hb : bitV (a : Int) i = decide (a / 2 ^ (32 - (i + 1)).toNat % 2 = 1) := by
    unfold bitV
    rw [show (31 - i).toNat = (32 - (i + 1)).toNat by omega]
    have : ((a : Int) / 2 ^ (32 - (i + 1)).toNat % 2) = ((a / 2 ^ (32 - (i + 1)).toNat % 2 : Nat) : Int) := by simp
    rw [this]
    congr 1
    simp only [eq_iff_iff]
    omega
  rw [hq, Nat.mod_mul, hb]
  generalize (2 : Nat) ^ (32 - (i + 1)).toNat = q at hp
  have h2 : a / q % 2 = 0 ∨ a / q % 2 = 1 := by omega
  rcases h2 with h2 | h2
  · rw [h2]; simp
  · rw [h2]; simp; omega
structure R1I (a n : Int) (p nx0 : Nat) (H0 : AH) (m : Nat) (env : Env) (H1 : AH) (nx1 : Nat) (i : Int) : Prop where
  henv : env = [(1, .pointer (some ⟨p, 0, none⟩)), (3, .int .i64 i)]
  i0 : 0 ≤ i
  i1 : i ≤ 32
  hm : m = (32 - i).toNat
  hH : H1 = H0
  hx : nx1 = nx0
  hb : pxRightC a n = true ↔ a.toNat % 2 ^ (32 - i).toNat = 0
theorem right01p_c {lo : Nat} (a n : Int) (h0 : 0 ≤ a) (h1 : a ≤ 4294967295) (h2 : 0 ≤ n) (H : AH) (nx : Nat) : ACalls Tryz.prog lo 36 #[.agg #[.int .u32 a, .int .u8 n]] H nx (fun v H' nx' => v = .bool (pxRightC a n) ∧ nx ≤ nx' ∧ Kp (fun _ => False) nx H H') := by
  refine ACalls.withLo fun hlo => ?_
  refine acalls_of_awp L36 Tryz.func36 rfl (by kernel_rfl) ?_
  simp (disch := omega) only [go_sem, ↓reduceIte ]
  intro p hp
  by_cases h : n ≤ 32
  · have hR : pxRightC a n = true ↔ a.toNat % 2 ^ (32 - n).toNat = 0 := by
      have := andNot_val (a := a.toNat) (n := n) (by omega) h2 h
      rw [Int.toNat_of_nonneg h0] at this
      unfold pxRightC
      rw [this]
      simp only [h, decide_true, Bool.true_and, decide_eq_true_eq]
      omega
    simp (disch := omega) only [go_sem, ↓reduceIte ]
    refine awp_loop (fun m env H1 nx1 => ∃ i, R1I a n p (p + 1) (H.new p #[.int .u32 a, .int .u8 n] 30) m env H1 nx1 i) (32 - n).toNat ⟨n, ⟨rfl, h2, h, rfl, rfl, rfl, hR⟩⟩ (fun m env H1 nx1 ⟨i, hI⟩ hn => ?_)
    obtain ⟨henv, i0, i1, hm, hH, hx, hb⟩ := hI
    subst henv; subst hH; subst hx
    by_cases hi : i < 32
    · have hst := bit_step a.toNat i0 hi
      rw [Int.toNat_of_nonneg h0] at hst
      simp (disch := omega) only [go_sem, ↓reduceIte ]
      refine (bit_c2 a i h0 h1 i0 (by omega) _ _).mono fun v H' nx' _ ⟨hv, hH, hx⟩ => ?_
      subst hv; subst hH; subst hx
      cases hbv : bitV a i with
      | true =>
        rw [hbv] at hst
        have : pxRightC a n = false := by
          rw [Bool.eq_false_iff, Ne, hb, hst]
          simp
        simp (disch := omega) only [go_sem, ↓reduceIte , this]
        exact ⟨by omega, (by repeat first | exact Kp.refl _ _ _ | refine Kp.dropT ?_ (.inl (by omega)) | refine Kp.put ?_ (.inl (by omega)) | refine Kp.new ?_ (by omega) | refine Kp.put ?_ (.inr (by omega)) | refine Kp.newO ?_ (by omega) | refine Kp.setO ?_ (.inl (by omega)) | refine Kp.setO ?_ (.inr (by omega)) | refine Kp.trans0 ?_ (by assumption) (by omega) | refine Kp.transS ?_ (by assumption) (by omega) (fun b hb hT => by first | omega | (dsimp only at hT ⊢; omega) | (simp only at hT ⊢; omega))) ⟩
      | false =>
        rw [hbv] at hst
        simp (disch := omega) only [go_sem, ↓reduceIte ]
        exact ⟨(32 - (i + 1)).toNat, by omega, i + 1, ⟨rfl, by omega, by omega, rfl, rfl, rfl, by rw [hb, hst]; simp⟩⟩
    · have : i = 32 := by omega
      subst this
      have hr : pxRightC a n = true := by
        rw [hb]
        show a.toNat % 1 = 0
        omega
      simp (disch := omega) only [go_sem, ↓reduceIte , hr]
      exact ⟨by omega, (by repeat first | exact Kp.refl _ _ _ | refine Kp.dropT ?_ (.inl (by omega)) | refine Kp.put ?_ (.inl (by omega)) | refine Kp.new ?_ (by omega) | refine Kp.put ?_ (.inr (by omega)) | refine Kp.newO ?_ (by omega) | refine Kp.setO ?_ (.inl (by omega)) | refine Kp.setO ?_ (.inr (by omega)) | refine Kp.trans0 ?_ (by assumption) (by omega) | refine Kp.transS ?_ (by assumption) (by omega) (fun b hb hT => by first | omega | (dsimp only at hT ⊢; omega) | (simp only at hT ⊢; omega))) ⟩
  · have hr : pxRightC a n = false := by
      unfold pxRightC
      simp [h]
    simp (disch := omega) only [go_sem, ↓reduceIte , hr]
    exact ⟨by omega, (by repeat first | exact Kp.refl _ _ _ | refine Kp.dropT ?_ (.inl (by omega)) | refine Kp.put ?_ (.inl (by omega)) | refine Kp.new ?_ (by omega) | refine Kp.put ?_ (.inr (by omega)) | refine Kp.newO ?_ (by omega) | refine Kp.setO ?_ (.inl (by omega)) | refine Kp.setO ?_ (.inr (by omega)) | refine Kp.trans0 ?_ (by assumption) (by omega) | refine Kp.transS ?_ (by assumption) (by omega) (fun b hb hT => by first | omega | (dsimp only at hT ⊢; omega) | (simp only at hT ⊢; omega))) ⟩
end Go.Proofs.YtngnbafididkcaaGreat
end
section
namespace Go.Proofs.YtngnbafididkcaaGreat
open Go.RowKit
set_option linter.unusedSimpArgs false

def ownF (es : List Ent) (ps : List (Int × Int)) : List ((Int × Int) × Int) := ps.foldl (ownStep es) []
theorem ownF_snoc (es : List Ent) (ps : List (Int × Int)) (p : Int × Int) : ownF es (ps ++ [p]) = ownStep es (ownF es ps) p := by
  unfold ownF
  rw [List.foldl_append]
  rfl
theorem getA_snoc_ind {es : List Ent} (q : Int × Int) : ∀ (ps : List (Int × Int)) (own : List ((Int × Int) × Int)), getA q (ps.foldl (ownStep es) own) = match getA q own with | some v => some v | none => if q ∈ ps ∧ pxRightC q.1 q.2 = true then some (seqO es q) else none
  | [], own => by
    simp only [List.foldl_nil, List.not_mem_nil, false_and, if_false]
    cases getA q own <;> rfl
  | p :: ps, own => by
    rw [List.foldl_cons, getA_snoc_ind q ps]
    unfold ownStep
    by_cases h : (getA p own).isSome = true ∨ pxRightC p.1 p.2 = false
    · rw [if_pos h]
      cases hg : getA q own with
      | some v => rfl
      | none =>
        have : ¬ (q = p ∧ pxRightC q.1 q.2 = true) := fun hc => by
          obtain ⟨rfl, h2⟩ := hc
          rw [hg, h2] at h
          simp at h
        by_cases hq : q = p
        · have h2 : ¬ pxRightC q.1 q.2 = true := fun hc => this ⟨hq, hc⟩
          simp [h2]
        · simp [hq]
    · rw [if_neg h]
      by_cases hq : q = p
      · subst hq
        have h1 : getA q own = none := by
          cases hg : getA q own with
          | none => rfl
          | some v => rw [hg] at h; simp at h
        have h2 : pxRightC q.1 q.2 = true := by
          cases hg : pxRightC q.1 q.2 with
          | true => rfl
          | false => rw [hg] at h; simp at h
        rw [h1, getA_set, if_pos rfl]
        simp [h2]
      · rw [getA_set, if_neg (fun hc => hq hc.symm)]
        simp [hq]
theorem ownF_get (es : List Ent) (ps : List (Int × Int)) (q : Int × Int) : getA q (ownF es ps) = if q ∈ ps ∧ pxRightC q.1 q.2 = true then some (seqO es q) else none := getA_snoc_ind q ps []
theorem setA_len_new (q : Int × Int) (v : Int) : ∀ (own : List ((Int × Int) × Int)), getA q own = none → (setA q v own).length = own.length + 1
  | [], _ => rfl
  | a :: own, h => by
    unfold getA at h
    unfold setA
    split at h
    · cases h
    · rename_i hne
      rw [if_neg hne, List.length_cons, setA_len_new q v own h, List.length_cons]
theorem ownF_len_step (es : List Ent) (ps : List (Int × Int)) (p : Int × Int) : (ownF es (ps ++ [p])).length = (ownF es ps).length + (if p ∈ ps ∨ pxRightC p.1 p.2 = false then 0 else 1) := by
  rw [ownF_snoc]
  have hg := ownF_get es ps p
  unfold ownStep
  by_cases h : pxRightC p.1 p.2 = true
  · by_cases hm : p ∈ ps
    · rw [if_pos ⟨hm, h⟩] at hg
      rw [if_pos (.inl (by rw [hg]; rfl)), if_pos (.inl hm)]; rfl
    · rw [if_neg (fun hc => hm hc.1)] at hg
      rw [if_neg (by rw [hg, h]; simp), if_neg (by rw [h]; simp [hm]), setA_len_new _ _ _ hg]
  · rw [Bool.not_eq_true] at h
    rw [if_pos (.inr h), if_pos (.inr h)]; rfl
theorem ownF_len (es : List Ent) (ps : List (Int × Int)) : (ownF es ps).length ≤ ps.length := by
  have : ∀ n, n ≤ ps.length → (ownF es (ps.take n)).length ≤ n := fun n => by
    induction n with
    | zero => intro _; simp [ownF]
    | succ n ih =>
      intro hn
      rw [List.take_succ_eq_append_getElem (by omega), ownF_len_step]
      have := ih (by omega)
      split <;> omega
  have := this ps.length (Nat.le_refl _)
  rwa [List.take_length] at this
theorem getA_of_mem {k : Int × Int} : ∀ {own : List ((Int × Int) × Int)}, k ∈ own.map (·.1) ↔ (getA k own).isSome = true
  | [] => by simp [getA]
  | (a, b) :: own => by
    unfold getA
    by_cases h : k = a
    · subst h; simp
    · simp only [List.map_cons, List.mem_cons]
      rw [if_neg (fun hc => h (Eq.symm hc) ), ← getA_of_mem (own := own)]
      simp [h]
theorem ownF_right {es : List Ent} {ps : List (Int × Int)} : ∀ a ∈ ownF es ps, pxRightC a.1.1 a.1.2 = true := fun a ha => by
  have h1 : a.1 ∈ (ownF es ps).map (·.1) := List.mem_map.2 ⟨a, ha, rfl⟩
  rw [getA_of_mem, ownF_get] at h1
  by_cases h : a.1 ∈ ps ∧ pxRightC a.1.1 a.1.2 = true
  · exact h.2
  · rw [if_neg h] at h1; cases h1
theorem ownF_mem {es : List Ent} {ps : List (Int × Int)} : ∀ a ∈ ownF es ps, a.1 ∈ ps := fun a ha => by
  have h1 : a.1 ∈ (ownF es ps).map (·.1) := List.mem_map.2 ⟨a, ha, rfl⟩
  rw [getA_of_mem, ownF_get] at h1
  by_cases h : a.1 ∈ ps ∧ pxRightC a.1.1 a.1.2 = true
  · exact h.1
  · rw [if_neg h] at h1; cases h1
theorem engG_pre {id : Int} {es : List Ent} {ps : List (Int × Int)} (h1 : es.length ≤ 60) (h2 : ps.length ≤ 100) (h3 : ∀ p ∈ ps, 0 ≤ p.2) : EngPre (engG id (ownF es ps) es) := by
  have := ownF_len es ps
  refine ⟨fun a ha => ⟨ownF_right a ha, h3 _ (ownF_mem a ha)⟩, by simp [engG], by simp [engG], ?_, by simp [engG], by simp [engG], by simp [engG], by simp [engG], by simp [engG]⟩
  show es.length + (ownF es ps).length + 0 ≤ 200
  omega
section
variable {id : Int} {es : List Ent} {ps : List (Int × Int)} {e' : Eng} {L : List Rt} {ks : List (Int × Int)} {es1 es2 : List Ent} {ts' tb : List Tld} {d : Bool} {lo : List (Int × Int)}
theorem beg_L (hse : SelE (engG id (ownF es ps) es) e' L ks es1 es2 ts' tb d lo) : L.Perm (ownL (engG id (ownF es ps) es) ks) := by
  have h := hse.Lp
  have ht : ts' = [] := List.Perm.eq_nil hse.tp
  rw [ht] at h
  simpa [selR] using h
theorem beg_len (hse : SelE (engG id (ownF es ps) es) e' L ks es1 es2 ts' tb d lo) : L.length = (ownF es ps).length := by
  rw [(beg_L hse).length_eq]
  unfold ownL
  rw [List.length_map, hse.kp.length_eq, List.length_map]
  rfl
theorem beg_id (hse : SelE (engG id (ownF es ps) es) e' L ks es1 es2 ts' tb d lo) : e'.id = id ∧ e'.sel = L := by
  rw [hse.eq]
  exact ⟨rfl, rfl⟩
theorem beg_route (hse : SelE (engG id (ownF es ps) es) e' L ks es1 es2 ts' tb d lo) {p : Int × Int} (hp : p ∈ ps) (hr : pxRightC p.1 p.2 = true) : routeE e' p.1 p.2 = some ⟨p.1, p.2, id, 0, seqO es p⟩ := by
  have hmem : ∀ k ∈ ks, (⟨k.1, k.2, id, 0, (getA k (ownF es ps)).getD 0⟩ : Rt) ∈ L := fun k hk => (beg_L hse).mem_iff.2 (List.mem_map.2 ⟨k, hk, rfl⟩)
  have hg : getA p (ownF es ps) = some (seqO es p) := by rw [ownF_get, if_pos ⟨hp, hr⟩]
  have hk : p ∈ ks := hse.kp.mem_iff.2 (getA_of_mem.2 (by
    show (getA p (ownF es ps)).isSome = true
    rw [hg]; rfl))
  unfold routeE
  rw [(beg_id hse).2]
  cases hf : L.find? (fun x => samePx x p.1 p.2) with
  | none =>
    rw [List.find?_eq_none] at hf
    exact absurd (by simp [samePx]) (hf _ (hmem p hk))
  | some x =>
    have h1 := List.find?_some hf
    have h2 := List.mem_of_find?_eq_some hf
    obtain ⟨k, _, rfl⟩ := List.mem_map.1 ((beg_L hse).mem_iff.1 h2)
    unfold samePx at h1
    simp only [Bool.and_eq_true, decide_eq_true_eq] at h1
    have : k = p := Prod.ext h1.1 h1.2
    subst this
    show some (Rt.mk k.1 k.2 id 0 ((getA k (ownF es ps)).getD 0)) = _
    rw [hg]; rfl
end
/-- The serial that the law asks for. -/
def seqR (rs : List RowRec) (p : Int × Int) : Int := match rs.find? (isRow p.1 p.2) with | some r => nextI r.s3 | none => 1
theorem seqR_O {es : List Ent} {rs : List RowRec} (h : ∀ a n, wantE es a n = (rs.find? (isRow a n)).map rowEnt) (p : Int × Int) : seqO es p = seqR rs p := by
  unfold seqO seqR
  rw [h]
  cases rs.find? (isRow p.1 p.2) <;> rfl
theorem seqR_hit {rs : List RowRec} (h : rs.Pairwise ltW) {i : Nat} {r : RowRec} (hr : rs[i]? = some r) : seqR (rs.take (i + 1)) (r.a, r.n) = nextI r.s3 := by
  have h1 := row_new h hr
  obtain ⟨hi, rfl⟩ := List.getElem?_eq_some_iff.1 hr
  unfold seqR
  rw [List.take_succ_eq_append_getElem hi, List.find?_append, h1]
  simp [isRow]
theorem seqR_miss {rs : List RowRec} {i : Nat} {r : RowRec} (hr : rs[i]? = some r) {p : Int × Int} (hne : ¬ (r.a = p.1 ∧ r.n = p.2)) : seqR (rs.take (i + 1)) p = seqR (rs.take i) p := by
  obtain ⟨hi, rfl⟩ := List.getElem?_eq_some_iff.1 hr
  unfold seqR
  have : isRow p.1 p.2 rs[i] = false := by
    unfold isRow
    rw [Bool.eq_false_iff]
    intro hc
    simp only [Bool.and_eq_true, decide_eq_true_eq] at hc
    exact hne hc
  rw [List.take_succ_eq_append_getElem hi, List.find?_append, List.find?_cons, this]
  simp
end Go.Proofs.YtngnbafididkcaaGreat
end
