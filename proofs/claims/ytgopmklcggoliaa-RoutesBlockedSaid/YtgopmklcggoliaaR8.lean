/- Sources of no marks, in our own logic: New, find, Mark, Feasible; what the ways cost. -/
import Derived.Test.YtgopmklcggoliaaR2
import Derived.Test.YtgopmklcggoliaaL17
namespace Go.Proofs.Ytgopmklcggoliaa
open Go.RowKit
set_option linter.unusedSimpArgs false

/-- A source of no marks in block q. -/
structure SrcN (lo nx : Nat) (H : AH) (q : Nat) : Prop where
  ge : lo ≤ q
  lt : q < nx
  l : H.c q 0 = some (.slice none 0 0)
theorem SrcN.kp {lo nx : Nat} {H : AH} {q : Nat} (h : SrcN lo nx H q) {S : Nat → Prop} {nx' : Nat} {H' : AH} (hk : Kp S nx H H') (hn : nx ≤ nx') (h1 : ¬ S q) : SrcN lo nx' H' q := by
  have hlt := h.lt
  exact ⟨h.ge, by omega, by rw [(hk q hlt h1).1]; exact h.l⟩

theorem snew_c {lo : Nat} {H : AH} {nx : Nat} : ACalls Try.prog lo 26 #[] H nx (fun v H' nx' => ∃ p, v = .pointer (some ⟨p, 0, none⟩) ∧ nx ≤ p ∧ SrcN lo nx' H' p ∧ nx ≤ nx' ∧ Kp (fun _ => False) nx H H') := by
  refine ACalls.withLo fun hlo => ?_
  refine acalls_of_awp L26 Try.func26 rfl (by kernel_rfl) ?_
  simp (disch := omega) only [go_sem, ↓reduceIte ]
  intro p hp
  simp (disch := omega) only [go_sem, ↓reduceIte ]
  exact ⟨p, rfl, hp, ⟨by omega, by omega, by simp (disch := omega) only [go_sem, ↓reduceIte ]⟩, by omega, (by repeat first | exact Kp.refl _ _ _ | refine Kp.dropT ?_ (.inl (by omega)) | refine Kp.put ?_ (.inl (by omega)) | refine Kp.new ?_ (by omega) | refine Kp.put ?_ (.inr (by omega)) | refine Kp.trans0 ?_ (by assumption) (by omega) | refine Kp.transS ?_ (by assumption) (by omega) (fun b hb hT => by first | omega | (dsimp only at hT ⊢; omega) | (simp only at hT ⊢; omega))) ⟩

structure BinI (b : Nat) (f : Value) (m : Nat) (env : Env) (H0 : AH) (nx0 : Nat) (H : AH) (nx : Nat) : Prop where
  henv : env = [(0, .slice none 0 0), (2, f), (4, .pointer (some ⟨b, 0, none⟩)), (8, .int .i64 0), (9, .int .i64 0), (10, .int .i64 0)]
  hH : H = H0
  hx : nx = nx0
theorem binS_none {lo : Nat} (a n : Int) (f : Value) (H : AH) (nx : Nat) : ACalls Try.prog lo 55 #[.slice none 0 0, .agg #[.int .u32 a, .int .u8 n], f] H nx (fun v H' nx' => v = .tuple #[.int .i64 0, .bool false] ∧ nx ≤ nx' ∧ Kp (fun _ => False) nx H H') := by
  refine ACalls.withLo fun hlo => ?_
  refine acalls_of_awp L55 Try.func55 rfl (by kernel_rfl) ?_
  simp (disch := omega) only [go_sem, ↓reduceIte ]
  intro b hb
  simp (disch := omega) only [go_sem, ↓reduceIte ]
  refine awp_loop (fun m env H1 nx1 => BinI b f m env (H.new b #[.int .u32 a, .int .u8 n] 39) (b + 1) H1 nx1) 0 ⟨rfl, rfl, rfl⟩ (fun m env H1 nx1 hI hn => ?_)
  obtain ⟨henv, hH, hx⟩ := hI
  subst henv; subst hH; subst hx
  simp (disch := omega) only [go_sem, ↓reduceIte ]
  refine awp_draw ord55x8 (by kernel_rfl) ?_
  simp (disch := omega) only [go_sem, ↓reduceIte , ord55x8]
  exact ⟨by omega, (by repeat first | exact Kp.refl _ _ _ | refine Kp.dropT ?_ (.inl (by omega)) | refine Kp.put ?_ (.inl (by omega)) | refine Kp.new ?_ (by omega) | refine Kp.put ?_ (.inr (by omega)) | refine Kp.trans0 ?_ (by assumption) (by omega) | refine Kp.transS ?_ (by assumption) (by omega) (fun b hb hT => by first | omega | (dsimp only at hT ⊢; omega) | (simp only at hT ⊢; omega))) ⟩

theorem sfind_none {lo : Nat} {q : Nat} {H : AH} {nx : Nat} (hq : SrcN lo nx H q) (a n : Int) : ACalls Try.prog lo 38 #[.pointer (some ⟨q, 0, none⟩), .agg #[.int .u32 a, .int .u8 n]] H nx (fun v H' nx' => v = .tuple #[.int .i64 0, .bool false] ∧ nx ≤ nx' ∧ Kp (fun _ => False) nx H H') := by
  refine ACalls.withLo fun hlo => ?_
  refine acalls_of_awp L38 Try.func38 rfl (by kernel_rfl) ?_
  have hlt := hq.lt
  have hl := hq.l
  simp (disch := omega) only [go_sem, ↓reduceIte ]
  intro b hb
  simp (disch := omega) only [go_sem, ↓reduceIte ]
  refine awp_draw ord38x1 (by kernel_rfl) ?_
  simp (disch := omega) only [go_sem, ↓reduceIte , ord38x1, hl]
  refine (binS_none a n _ _ _).mono fun v H1 nx1 _ ⟨hv, hx, hk⟩ => ?_
  subst hv
  simp (disch := omega) only [go_sem, ↓reduceIte ]
  exact ⟨dkeep_last (by kernel_rfl), by omega, (by repeat first | exact Kp.refl _ _ _ | refine Kp.dropT ?_ (.inl (by omega)) | refine Kp.put ?_ (.inl (by omega)) | refine Kp.new ?_ (by omega) | refine Kp.put ?_ (.inr (by omega)) | refine Kp.trans0 ?_ (by assumption) (by omega) | refine Kp.transS ?_ (by assumption) (by omega) (fun b hb hT => by first | omega | (dsimp only at hT ⊢; omega) | (simp only at hT ⊢; omega))) ⟩

theorem smark_none {lo : Nat} {q : Nat} {H : AH} {nx : Nat} (hq : SrcN lo nx H q) (a n : Int) : ACalls Try.prog lo 21 #[.pointer (some ⟨q, 0, none⟩), .agg #[.int .u32 a, .int .u8 n]] H nx (fun v H' nx' => v = .tuple #[.agg #[.int .u16 0, .int .u16 0], .bool false] ∧ nx ≤ nx' ∧ Kp (fun _ => False) nx H H') := by
  refine ACalls.withLo fun hlo => ?_
  refine acalls_of_awp L21 Try.func21 rfl (by kernel_rfl) ?_
  have hlt := hq.lt
  simp (disch := omega) only [go_sem, ↓reduceIte ]
  intro b hb
  simp (disch := omega) only [go_sem, ↓reduceIte ]
  intro c hc
  simp (disch := omega) only [go_sem, ↓reduceIte ]
  refine (sfind_none (hq.kp (S := fun _ => False) (nx' := c + 1) (H' := (H.new b #[.int .u32 a, .int .u8 n] 39).new c #[.int .u16 0, .int .u16 0] 41) (by repeat first | exact Kp.refl _ _ _ | refine Kp.dropT ?_ (.inl (by omega)) | refine Kp.put ?_ (.inl (by omega)) | refine Kp.new ?_ (by omega) | refine Kp.put ?_ (.inr (by omega)) | refine Kp.trans0 ?_ (by assumption) (by omega) | refine Kp.transS ?_ (by assumption) (by omega) (fun b hb hT => by first | omega | (dsimp only at hT ⊢; omega) | (simp only at hT ⊢; omega)))  (by omega) (by simp)) a n).mono fun v H1 nx1 _ ⟨hv, hx, hk⟩ => ?_
  subst hv
  have hc1 := hk.cell0
  simp (disch := omega) only [go_sem, ↓reduceIte , hc1]
  exact ⟨by omega, (by repeat first | exact Kp.refl _ _ _ | refine Kp.dropT ?_ (.inl (by omega)) | refine Kp.put ?_ (.inl (by omega)) | refine Kp.new ?_ (by omega) | refine Kp.put ?_ (.inr (by omega)) | refine Kp.trans0 ?_ (by assumption) (by omega) | refine Kp.transS ?_ (by assumption) (by omega) (fun b hb hT => by first | omega | (dsimp only at hT ⊢; omega) | (simp only at hT ⊢; omega))) ⟩

theorem sfeas_none {lo : Nat} {q : Nat} {H : AH} {nx : Nat} (hq : SrcN lo nx H q) (a n s m : Int) : ACalls Try.prog lo 19 #[.pointer (some ⟨q, 0, none⟩), .agg #[.int .u32 a, .int .u8 n], .agg #[.int .u16 s, .int .u16 m]] H nx (fun v H' nx' => v = .bool true ∧ nx ≤ nx' ∧ Kp (fun _ => False) nx H H') := by
  refine ACalls.withLo fun hlo => ?_
  refine acalls_of_awp L19 Try.func19 rfl (by kernel_rfl) ?_
  have hlt := hq.lt
  simp (disch := omega) only [go_sem, ↓reduceIte ]
  intro b hb
  simp (disch := omega) only [go_sem, ↓reduceIte ]
  intro c hc
  simp (disch := omega) only [go_sem, ↓reduceIte ]
  refine (smark_none (hq.kp (S := fun _ => False) (nx' := c + 1) (H' := (H.new b #[.int .u32 a, .int .u8 n] 39).new c #[.int .u16 s, .int .u16 m] 41) (by repeat first | exact Kp.refl _ _ _ | refine Kp.dropT ?_ (.inl (by omega)) | refine Kp.put ?_ (.inl (by omega)) | refine Kp.new ?_ (by omega) | refine Kp.put ?_ (.inr (by omega)) | refine Kp.trans0 ?_ (by assumption) (by omega) | refine Kp.transS ?_ (by assumption) (by omega) (fun b hb hT => by first | omega | (dsimp only at hT ⊢; omega) | (simp only at hT ⊢; omega)))  (by omega) (by simp)) a n).mono fun v H1 nx1 _ ⟨hv, hx, hk⟩ => ?_
  subst hv
  have hc1 := hk.cell0
  simp (disch := omega) only [go_sem, ↓reduceIte ]
  intro d hd
  simp (disch := omega) only [go_sem, ↓reduceIte , hc1]
  by_cases hm : m = 65535
  · simp (disch := omega) only [go_sem, ↓reduceIte , hm]
    exact ⟨by omega, (by repeat first | exact Kp.refl _ _ _ | refine Kp.dropT ?_ (.inl (by omega)) | refine Kp.put ?_ (.inl (by omega)) | refine Kp.new ?_ (by omega) | refine Kp.put ?_ (.inr (by omega)) | refine Kp.trans0 ?_ (by assumption) (by omega) | refine Kp.transS ?_ (by assumption) (by omega) (fun b hb hT => by first | omega | (dsimp only at hT ⊢; omega) | (simp only at hT ⊢; omega))) ⟩
  · simp (disch := omega) only [go_sem, ↓reduceIte , hm]
    exact ⟨by omega, (by repeat first | exact Kp.refl _ _ _ | refine Kp.dropT ?_ (.inl (by omega)) | refine Kp.put ?_ (.inl (by omega)) | refine Kp.new ?_ (by omega) | refine Kp.put ?_ (.inr (by omega)) | refine Kp.trans0 ?_ (by assumption) (by omega) | refine Kp.transS ?_ (by assumption) (by omega) (fun b hb hT => by first | omega | (dsimp only at hT ⊢; omega) | (simp only at hT ⊢; omega))) ⟩

set_option maxRecDepth 20000 in
/-- What the ways cost. -/
theorem good_c {lo : Nat} {H : AH} {nx : Nat} : ACalls Try.prog lo 27 #[] H nx (fun v H' nx' => ∃ d, nx ≤ d ∧ v = .slice (some ⟨d, 0, none⟩) 8 8 ∧ SlA nx' H' 1 v 8 ([96, 96, 96, 96, 96, 96, 96, 96].map (Value.int .u16)) (d + 1) ∧ nx ≤ nx' ∧ Kp (fun _ => False) nx H H') := by
  refine ACalls.withLo fun hlo => ?_
  refine acalls_of_awp L27 Try.func27 rfl (by kernel_rfl) ?_
  simp (disch := omega) only [go_sem, ↓reduceIte ]
  refine buildSQ_all (n := 8) [.int .u16 96, .int .u16 96, .int .u16 96, .int .u16 96, .int .u16 96, .int .u16 96, .int .u16 96, .int .u16 96] sl50 zero32 (by omega) (by omega) rfl (by simp [cells_int]) fun d hd => ?_
  simp (disch := omega) only [go_sem, ↓reduceIte ]
  exact ⟨d, hd, rfl, SlA.ofNew rfl (by omega) (by simp [maxLen]) (by simp [cells_int]) (fun j _ => by simp [cells_int]), by omega, (by repeat first | exact Kp.refl _ _ _ | refine Kp.dropT ?_ (.inl (by omega)) | refine Kp.put ?_ (.inl (by omega)) | refine Kp.new ?_ (by omega) | refine Kp.put ?_ (.inr (by omega)) | refine Kp.trans0 ?_ (by assumption) (by omega) | refine Kp.transS ?_ (by assumption) (by omega) (fun b hb hT => by first | omega | (dsimp only at hT ⊢; omega) | (simp only at hT ⊢; omega))) ⟩
end Go.Proofs.Ytgopmklcggoliaa
