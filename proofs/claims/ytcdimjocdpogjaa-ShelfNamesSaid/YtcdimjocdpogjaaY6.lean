/- ShelfNames, in our own logic. -/
import Derived.Test.YtcdimjocdpogjaaY5
namespace Go.Proofs.Ytcdimjocdpogjaa
open Go.RowKit
set_option linter.unusedSimpArgs false

theorem one_again {d : Int} {i : Nat} {old : List (ByteArray × Nat)} {mv : List Mv} {bs : List Int} {s : Int} {r : Bks} (t : ByteArray) (j : Nat) : (createR (fsOne 100 d nmA i old mv bs s r) t j).1 = if nameOk t = true then (if t = nmA then 9 else 0) else 1 := by
  unfold createR
  rw [one_act]
  cases nameOk t
  · simp
  · by_cases h : t = nmA
    · simp [h, fsOne, getA]
    · have h' : ¬ nmA = t := fun e => h e.symm
      simp [h, h', fsOne, getA]

set_option maxHeartbeats 8000000 in
set_option maxRecDepth 20000 in
theorem shelfNames_c {lo : Nat} {H : AH} {nx : Nat} {t : ByteArray} {vp : Value} {ps : List Int} {ownp : Nat} (hp : SlA nx H 1 vp ps.length (bytV ps) ownp) (hlt : t.size ≤ 60) (hl0 : 0 < ps.length) (hlp : ps.length ≤ 60) (n : Int) :
    ACalls Try.prog lo 5 #[.string t, vp, .int .i64 n] H nx (fun v H' nx' => v = .bool true ∧ nx ≤ nx' ∧ Kp (fun _ => False) nx H H') := by
  refine ACalls.withLo fun hlo => ?_
  refine acalls_of_awp L5 Try.func5 rfl (by kernel_rfl) ?_
  obtain ⟨pa, pc, rfl⟩ := hp.form
  have hpo := hp.le
  simp (disch := omega) only [go_sem, ↓reduceIte ]
  refine awake05_c.mono fun v H0 nx0 _ ⟨hv, hx0, hk0⟩ => ?_
  subst hv
  simp (disch := omega) only [go_sem, ↓reduceIte ]
  refine (wNew 100).mono fun v H1 nx1 _ ⟨hx1, hk1, p, hv, w1⟩ => ?_
  subst hv
  simp (disch := omega) only [go_sem, ↓reduceIte ]
  refine (wCreate w1 (by omega) (fsNone_ok (by omega)) nmA).mono fun v H2 nx2 _ ⟨i, hi, hv, s2⟩ => ?_
  rw [one_create okA] at hv s2
  subst hv
  have x2 := s2.le
  have k2 := s2.kp
  have r2 := one_other s2.sh
  obtain ⟨L2, w2, hN2⟩ := s2.sh
  have hkA2 : Kp (fun b => nx0 ≤ b) nx H H2 := (by repeat first | exact Kp.refl _ _ _ | refine Kp.dropT ?_ (.inl (by omega)) | refine Kp.put ?_ (.inl (by omega)) | refine Kp.new ?_ (by omega) | refine Kp.put ?_ (.inr (by omega)) | refine Kp.newO ?_ (by omega) | refine Kp.setO ?_ (.inl (by omega)) | refine Kp.setO ?_ (.inr (by omega)) | refine Kp.trans0 ?_ (by assumption) (by omega) | refine Kp.transS ?_ (by assumption) (by omega) (fun b hb hT => by first | omega | (dsimp only at hT ⊢; omega) | (simp only at hT ⊢; omega))) 
  have hp2 : SlA nx2 H2 1 (.slice pa ps.length pc) ps.length (bytV ps) ownp := hp.kp hkA2 (by omega) (by intro b hb; omega)
  have hu2 : usedF (fsOne 100 (0 + 1) nmA i [] [⟨nmA, some i, .empty⟩] [] 0 []) ≤ 0 := used_le (by simp)
  simp (disch := omega) only [go_sem, ↓reduceIte ]
  refine appendQ_two (aw_append sl22 zero5 rfl by5 (SlA.nil _ _ _) (hp2.src sl22 bytV_one) (by simp only [maxLen]; omega) (by omega) (.inl rfl) fun v3 H3 nx3 own3 hn3 hs3 ho3 hk3 hnil => ?_)
  rw [Nat.zero_add, List.nil_append] at hs3
  have hle3 := hs3.le
  have hk3' : Kp (fun _ => False) nx2 H2 H3 := Kp.mono hk3 (Nat.le_refl _) (fun b hb e => by omega)
  obtain ⟨g, off, cap, rfl, hg⟩ := hs3.open hl0
  have w3 := w2.kp hk3' hn3 (by simp)
  simp (disch := omega) only [go_sem, ↓reduceIte ]
  refine (shAppend_c w3 (fsOne_big (by omega) (by omega) (by simp) (by simp [totB])) nmA hs3 (by omega) (fun b hb e => by have := w2.fp_lt e; omega)).mono fun v H4 nx4 _ ⟨hv, L4, s4⟩ => ?_
  rw [one_append r2 (by omega)] at hv s4
  subst hv
  have x4 := s4.le
  have w4 := s4.sh
  have k4 := s4.kp
  have f4 : ∀ b, fpS p (fsOne 100 (0 + 1 + 1) nmA i [] [⟨nmA, some i, .empty⟩] ([] ++ ps) 0 []) L4 b → nx0 ≤ b ∧ b ≠ g := fun b hb => by
    rcases s4.fp b hb with e | e
    · have := w2.fp_lt e
      have := hN2 b e
      omega
    · omega
  rw [List.nil_append] at w4 f4
  have kk4 : Kp (fun b => nx0 ≤ b) nx3 H3 H4 := Kp.mono k4 (Nat.le_refl _) (fun b hb e => hN2 b e)
  have hs4 := hs3.kp k4 x4 (fun b hb e => by have := w2.fp_lt e; omega)
  obtain ⟨b0, ps1, rfl⟩ : ∃ b0 ps1, ps = b0 :: ps1 := by
    cases ps with
    | nil => simp at hl0
    | cons b0 ps1 => exact ⟨b0, ps1, rfl⟩
  have c0 := hs4.cells.1 0 (.int .u8 b0) (by simp [bytV])
  rw [Nat.add_zero] at c0
  simp (disch := omega) only [go_sem, ↓reduceIte , c0, Int.toNat_zero]
  have w5 : ShA lo nx4 (H4.put g off (.int .u8 (IntKind.u8.wrap (b0 + 1)))) p _ L4 := w4.kp (S := fun b => b = g) (by repeat first | exact Kp.refl _ _ _ | refine Kp.dropT ?_ (.inl (by omega)) | refine Kp.put ?_ (.inl (by omega)) | refine Kp.new ?_ (by omega) | refine Kp.put ?_ (.inr (by omega)) | refine Kp.newO ?_ (by omega) | refine Kp.setO ?_ (.inl (by omega)) | refine Kp.setO ?_ (.inr (by omega)) | refine Kp.trans0 ?_ (by assumption) (by omega) | refine Kp.transS ?_ (by assumption) (by omega) (fun b hb hT => by first | omega | (dsimp only at hT ⊢; omega) | (simp only at hT ⊢; omega)))  (Nat.le_refl _) (fun b hb e => (f4 b hb).2 e)
  have hg0 : nx0 ≤ g := by omega
  refine (shRead_c w5 (by rw [one_tot]; simp only [totB, List.map_nil, List.sum_nil]; omega) nmA).mono fun v H6 nx6 _ ⟨x6, k6, u, own6, hv, hs6, ho6⟩ => ?_
  rw [one_read r2] at hv hs6
  subst hv
  simp only at hs6
  have hle6 := hs6.le
  obtain ⟨g2, off2, cap2, rfl, hg2⟩ := hs6.open hl0
  have c1 := hs6.cells.1 0 (.int .u8 b0) (by simp [bytV])
  rw [Nat.add_zero] at c1
  have w6 := w5.kp k6 x6 (by simp)
  have hfp : ∀ b, fpS p (fsOne 100 (0 + 1 + 1) nmA i [] [⟨nmA, some i, .empty⟩] (b0 :: ps1) 0 []) L4 b → b < nx4 := fun b hb => w5.fp_lt hb
  simp (disch := omega) only [go_sem, ↓reduceIte , c1, Int.toNat_zero]
  have w7 : ShA lo nx6 (H6.put g2 off2 (.int .u8 (IntKind.u8.wrap (b0 + 1)))) p _ L4 := w6.kp (S := fun b => b = g2) (by repeat first | exact Kp.refl _ _ _ | refine Kp.dropT ?_ (.inl (by omega)) | refine Kp.put ?_ (.inl (by omega)) | refine Kp.new ?_ (by omega) | refine Kp.put ?_ (.inr (by omega)) | refine Kp.newO ?_ (by omega) | refine Kp.setO ?_ (.inl (by omega)) | refine Kp.setO ?_ (.inr (by omega)) | refine Kp.trans0 ?_ (by assumption) (by omega) | refine Kp.transS ?_ (by assumption) (by omega) (fun b hb hT => by first | omega | (dsimp only at hT ⊢; omega) | (simp only at hT ⊢; omega)))  (Nat.le_refl _) (fun b hb e => by have := hfp b hb; omega)
  have hg20 : nx0 ≤ g2 := by omega
  refine (shRead_c w7 (by rw [one_tot]; simp only [totB, List.map_nil, List.sum_nil]; omega) nmA).mono fun v H8 nx8 _ ⟨x8, k8, u8, own8, hv, hs8, ho8⟩ => ?_
  rw [one_read r2] at hv hs8
  subst hv
  simp only at hs8
  have hone8 := hs8.one
  have w8 := w7.kp k8 x8 (by simp)
  simp (disch := omega) only [go_sem, ↓reduceIte , hone8]
  refine (nilArm n).mono fun v H9 nx9 _ ⟨hv, hH, hx⟩ => ?_
  subst hv; subst hH; subst hx
  simp (disch := omega) only [go_sem, ↓reduceIte ]
  refine (nilRoom n).mono fun v H9 nx9 _ ⟨hv, hH, hx⟩ => ?_
  subst hv; subst hH; subst hx
  simp (disch := omega) only [go_sem, ↓reduceIte ]
  refine (nilFall n n).mono fun v H9 nx9 _ ⟨hv, hH, hx⟩ => ?_
  subst hv; subst hH; subst hx
  simp (disch := omega) only [go_sem, ↓reduceIte ]
  refine (nilRead t).mono fun v H9 nx9 _ ⟨hv, hH, hx⟩ => ?_
  subst hv; subst hH; subst hx
  generalize hG : awp Try.prog lo L5 = G
  simp (disch := omega) only [go_sem, ↓reduceIte ]
  rw [← hG]
  simp only [awp_seq, awp_region]
  simp (disch := omega) only [go_sem, ↓reduceIte ]
  refine (shName_c t _ _).mono fun v H10 nx10 _ ⟨hx10, hk10, hv⟩ => ?_
  subst hv
  simp (disch := omega) only [go_sem, ↓reduceIte ]
  refine (right05_c t (by omega)).mono fun v H11 nx11 _ ⟨hv, hx11, hk11⟩ => ?_
  subst hv
  have w11 := (w8.kp hk10 hx10 (by simp)).kp hk11 hx11 (by simp)
  have hs11 := (hs8.kp hk10 hx10 (by simp)).kp hk11 hx11 (by simp)
  clear k4 hk3
  have hcr : ∀ K : Value → AH → Nat → Prop, (∀ H12 nx12 (hx12 : nx11 ≤ nx12) (k12 : Kp (fun b => nx0 ≤ b) nx11 H11 H12) (hs12 : SlA nx12 H12 1 u8 (b0 :: ps1).length (bytV (b0 :: ps1)) own8), K (.int .i64 (if nameOk t = true then (if t = nmA then 9 else 0) else 1)) H12 nx12) → ACalls Try.prog lo 10 #[.pointer (some ⟨p, 0, none⟩), .string t] H11 nx11 K := fun K hK => by
    refine (shCreate_c w11 (fsOne_big (by omega) (by omega) (by simp) (by simp only [totB, List.map_nil, List.sum_nil]; omega)).toFsOk t).mono fun v H12 nx12 _ ⟨j, hj, hv, L12, s12⟩ => ?_
    rw [one_again] at hv
    subst hv
    exact hK H12 nx12 s12.le (Kp.mono s12.kp (Nat.le_refl _) (fun b hb e => (f4 b e).1)) (hs11.kp s12.kp s12.le (fun b hb e => by have := hfp b e; omega))
  cases hr : nameOk t with
  | true =>
    simp (disch := omega) only [go_sem, ↓reduceIte ]
    refine hcr _ fun H12 nx12 hx12 k12 hs12 => ?_
    rw [hr, if_pos rfl]
    have hne : ∀ x : Int, x = (if t = nmA then 9 else 0) → x ≠ 1 := fun x h => by subst h; split <;> omega
    generalize (if t = nmA then (9 : Int) else 0) = x at hne ⊢
    have hx1 := hne x rfl
    simp (disch := omega) only [go_sem, ↓reduceIte , hx1, decide_false]
    refine (right05_c t (by omega)).mono fun v H13 nx13 _ ⟨hv, hx13, hk13⟩ => ?_
    rw [hr] at hv
    subst hv
    have hkB : Kp (fun b => nx0 ≤ b) nx H H13 := (by repeat first | exact Kp.refl _ _ _ | refine Kp.dropT ?_ (.inl (by omega)) | refine Kp.put ?_ (.inl (by omega)) | refine Kp.new ?_ (by omega) | refine Kp.put ?_ (.inr (by omega)) | refine Kp.newO ?_ (by omega) | refine Kp.setO ?_ (.inl (by omega)) | refine Kp.setO ?_ (.inr (by omega)) | refine Kp.trans0 ?_ (by assumption) (by omega) | refine Kp.transS ?_ (by assumption) (by omega) (fun b hb hT => by first | omega | (dsimp only at hT ⊢; omega) | (simp only at hT ⊢; omega))) 
    have hp13 : SlA nx13 H13 1 (.slice pa (b0 :: ps1).length pc) (b0 :: ps1).length (bytV (b0 :: ps1)) ownp := hp.kp hkB (by omega) (by intro b hb; omega)
    have hs13 := hs12.kp hk13 hx13 (by simp)
    have e1 := fun K : Value → AH → Nat → Prop => convQ_bytes (P := Try.prog) (lo := lo) (K := K) sl22 (d := 9) u8u stru hp13
    have e2 := fun K : Value → AH → Nat → Prop => convQ_bytes (P := Try.prog) (lo := lo) (K := K) sl22 (d := 9) u8u stru hs13
    simp (disch := omega) only [go_sem, ↓reduceIte , e1, e2, hx1, decide_true, decide_false]
    refine nilList.mono fun v H14 nx14 _ ⟨hv, hx14, hk14⟩ => ?_
    subst hv
    simp (disch := omega) only [go_sem, ↓reduceIte ]
    refine nilNames.mono fun v H15 nx15 _ ⟨hv, hx15, hk15⟩ => ?_
    subst hv
    simp (disch := omega) only [go_sem, ↓reduceIte ]
    refine nilUsed.mono fun v H16 nx16 _ ⟨hv, hx16, hk16⟩ => ?_
    subst hv
    simp (disch := omega) only [go_sem, ↓reduceIte ]
    refine nilDone.mono fun v H17 nx17 _ ⟨hv, hx17, hk17⟩ => ?_
    subst hv
    simp (disch := omega) only [go_sem, ↓reduceIte ]
    refine nilMoves.mono fun v H18 nx18 _ ⟨hv, hx18, hk18⟩ => ?_
    subst hv
    simp (disch := omega) only [go_sem, ↓reduceIte ]
    refine nilOn.mono fun v H19 nx19 _ ⟨hv, hx19, hk19⟩ => ?_
    subst hv
    simp (disch := omega) only [go_sem, ↓reduceIte ]
    have hkC : Kp (fun b => nx0 ≤ b) nx13 H13 H19 := (by repeat first | exact Kp.refl _ _ _ | refine Kp.dropT ?_ (.inl (by omega)) | refine Kp.put ?_ (.inl (by omega)) | refine Kp.new ?_ (by omega) | refine Kp.put ?_ (.inr (by omega)) | refine Kp.newO ?_ (by omega) | refine Kp.setO ?_ (.inl (by omega)) | refine Kp.setO ?_ (.inr (by omega)) | refine Kp.trans0 ?_ (by assumption) (by omega) | refine Kp.transS ?_ (by assumption) (by omega) (fun b hb hT => by first | omega | (dsimp only at hT ⊢; omega) | (simp only at hT ⊢; omega))) 
    have hkD : Kp (fun b => nx0 ≤ b) nx H H19 := (by repeat first | exact Kp.refl _ _ _ | refine Kp.dropT ?_ (.inl (by omega)) | refine Kp.put ?_ (.inl (by omega)) | refine Kp.new ?_ (by omega) | refine Kp.put ?_ (.inr (by omega)) | refine Kp.newO ?_ (by omega) | refine Kp.setO ?_ (.inl (by omega)) | refine Kp.setO ?_ (.inr (by omega)) | refine Kp.trans0 ?_ (by assumption) (by omega) | refine Kp.transS ?_ (by assumption) (by omega) (fun b hb hT => by first | omega | (dsimp only at hT ⊢; omega) | (simp only at hT ⊢; omega))) 
    exact ⟨by omega, Kp.mono hkD (Nat.le_refl _) (fun b hb e => by omega)⟩
  | false =>
    simp (disch := omega) only [go_sem, ↓reduceIte ]
    refine hcr _ fun H12 nx12 hx12 k12 hs12 => ?_
    rw [hr, if_neg (by simp)]
    simp (disch := omega) only [go_sem, ↓reduceIte ]
    refine (right05_c t (by omega)).mono fun v H13 nx13 _ ⟨hv, hx13, hk13⟩ => ?_
    rw [hr] at hv
    subst hv
    have hkB : Kp (fun b => nx0 ≤ b) nx H H13 := (by repeat first | exact Kp.refl _ _ _ | refine Kp.dropT ?_ (.inl (by omega)) | refine Kp.put ?_ (.inl (by omega)) | refine Kp.new ?_ (by omega) | refine Kp.put ?_ (.inr (by omega)) | refine Kp.newO ?_ (by omega) | refine Kp.setO ?_ (.inl (by omega)) | refine Kp.setO ?_ (.inr (by omega)) | refine Kp.trans0 ?_ (by assumption) (by omega) | refine Kp.transS ?_ (by assumption) (by omega) (fun b hb hT => by first | omega | (dsimp only at hT ⊢; omega) | (simp only at hT ⊢; omega))) 
    have hp13 : SlA nx13 H13 1 (.slice pa (b0 :: ps1).length pc) (b0 :: ps1).length (bytV (b0 :: ps1)) ownp := hp.kp hkB (by omega) (by intro b hb; omega)
    have hs13 := hs12.kp hk13 hx13 (by simp)
    have e1 := fun K : Value → AH → Nat → Prop => convQ_bytes (P := Try.prog) (lo := lo) (K := K) sl22 (d := 9) u8u stru hp13
    have e2 := fun K : Value → AH → Nat → Prop => convQ_bytes (P := Try.prog) (lo := lo) (K := K) sl22 (d := 9) u8u stru hs13
    simp (disch := omega) only [go_sem, ↓reduceIte , e1, e2, decide_true, decide_false]
    refine nilList.mono fun v H14 nx14 _ ⟨hv, hx14, hk14⟩ => ?_
    subst hv
    simp (disch := omega) only [go_sem, ↓reduceIte ]
    refine nilNames.mono fun v H15 nx15 _ ⟨hv, hx15, hk15⟩ => ?_
    subst hv
    simp (disch := omega) only [go_sem, ↓reduceIte ]
    refine nilUsed.mono fun v H16 nx16 _ ⟨hv, hx16, hk16⟩ => ?_
    subst hv
    simp (disch := omega) only [go_sem, ↓reduceIte ]
    refine nilDone.mono fun v H17 nx17 _ ⟨hv, hx17, hk17⟩ => ?_
    subst hv
    simp (disch := omega) only [go_sem, ↓reduceIte ]
    refine nilMoves.mono fun v H18 nx18 _ ⟨hv, hx18, hk18⟩ => ?_
    subst hv
    simp (disch := omega) only [go_sem, ↓reduceIte ]
    refine nilOn.mono fun v H19 nx19 _ ⟨hv, hx19, hk19⟩ => ?_
    subst hv
    simp (disch := omega) only [go_sem, ↓reduceIte ]
    have hkC : Kp (fun b => nx0 ≤ b) nx13 H13 H19 := (by repeat first | exact Kp.refl _ _ _ | refine Kp.dropT ?_ (.inl (by omega)) | refine Kp.put ?_ (.inl (by omega)) | refine Kp.new ?_ (by omega) | refine Kp.put ?_ (.inr (by omega)) | refine Kp.newO ?_ (by omega) | refine Kp.setO ?_ (.inl (by omega)) | refine Kp.setO ?_ (.inr (by omega)) | refine Kp.trans0 ?_ (by assumption) (by omega) | refine Kp.transS ?_ (by assumption) (by omega) (fun b hb hT => by first | omega | (dsimp only at hT ⊢; omega) | (simp only at hT ⊢; omega))) 
    have hkD : Kp (fun b => nx0 ≤ b) nx H H19 := (by repeat first | exact Kp.refl _ _ _ | refine Kp.dropT ?_ (.inl (by omega)) | refine Kp.put ?_ (.inl (by omega)) | refine Kp.new ?_ (by omega) | refine Kp.put ?_ (.inr (by omega)) | refine Kp.newO ?_ (by omega) | refine Kp.setO ?_ (.inl (by omega)) | refine Kp.setO ?_ (.inr (by omega)) | refine Kp.trans0 ?_ (by assumption) (by omega) | refine Kp.transS ?_ (by assumption) (by omega) (fun b hb hT => by first | omega | (dsimp only at hT ⊢; omega) | (simp only at hT ⊢; omega))) 
    exact ⟨by omega, Kp.mono hkD (Nat.le_refl _) (fun b hb e => by omega)⟩
end Go.Proofs.Ytcdimjocdpogjaa
