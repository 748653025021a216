/- EngineSinks: in our own logic: its loop over marks. -/
import Derived.Test.YtngnbafididkcaaGreatN63
import Derived.Test.YtngnbafididkcaaGreatN23
namespace Go.Proofs.YtngnbafididkcaaGreat
open Go.RowKit
set_option linter.unusedSimpArgs false

/-- What lies in the law's own arrays. -/
structure SnkA (nx0 nx : Nat) (H : AH) (col : Nat → Nat) (b4 b5 b6 : Nat) (W : Nat → Int) (Hs : Nat → Bool) (T : Nat → Int) : Prop where
  g4 : nx0 ≤ b4
  g5 : nx0 ≤ b5
  g6 : nx0 ≤ b6
  l4 : b4 < nx
  l5 : b5 < nx
  l6 : b6 < nx
  z4 : col b4 = 0
  z5 : col b5 = 0
  z6 : col b6 = 0
  n45 : b4 ≠ b5
  n46 : b4 ≠ b6
  n56 : b5 ≠ b6
  cW : ∀ j, j < 36 → H.c b4 j = some (.int .u16 (W j))
  cH : ∀ j, j < 18 → H.c b5 j = some (.bool (Hs j))
  cT : ∀ j, j < 72 → H.c b6 j = some (.int .u16 (T j))
  bW : ∀ k, k < 18 → 0 ≤ W (k * 2) ∧ W (k * 2) ≤ 65535
  bT : ∀ j, j < 36 → 0 ≤ T (j * 2) ∧ T (j * 2) ≤ 65535
section
variable {lo nx0 nx nx' : Nat} {H H' : AH} {p : Nat} {e' : Eng} {y' : ELay} {col col' : Nat → Nat} {b4 b5 b6 : Nat} {W : Nat → Int} {Hs : Nat → Bool} {T : Nat → Int}
theorem SnkA.step (h : SnkA nx0 nx H col b4 b5 b6 W Hs T) (s : EngS lo nx H p col e' H' nx' y' col') : SnkA nx0 nx' H' col' b4 b5 b6 W Hs T := by
  have z : ∀ b, col b = 0 → b < nx → col' b = 0 := fun b h0 hb => Classical.byContradiction fun hc => by
    rcases s.fp b hc with h1 | h1
    · exact h1 h0
    · omega
  have hle := s.le
  have l4 := h.l4
  have l5 := h.l5
  have l6 := h.l6
  exact ⟨h.g4, h.g5, h.g6, by omega, by omega, by omega, z _ h.z4 h.l4, z _ h.z5 h.l5, z _ h.z6 h.l6, h.n45, h.n46, h.n56, fun j hj => by rw [s.kp.cell b4 j h.l4 (by rw [h.z4]; simp)]; exact h.cW j hj, fun j hj => by rw [s.kp.cell b5 j h.l5 (by rw [h.z5]; simp)]; exact h.cH j hj, fun j hj => by rw [s.kp.cell b6 j h.l6 (by rw [h.z6]; simp)]; exact h.cT j hj, h.bW, h.bT⟩
theorem SnkA.still (h : SnkA nx0 nx H col b4 b5 b6 W Hs T) (hk : Kp (fun _ => False) nx H H') (hn : nx ≤ nx') : SnkA nx0 nx' H' col b4 b5 b6 W Hs T := by
  have l4 := h.l4
  have l5 := h.l5
  have l6 := h.l6
  exact ⟨h.g4, h.g5, h.g6, by omega, by omega, by omega, h.z4, h.z5, h.z6, h.n45, h.n46, h.n56, fun j hj => by rw [hk.cell0 b4 j h.l4]; exact h.cW j hj, fun j hj => by rw [hk.cell0 b5 j h.l5]; exact h.cH j hj, fun j hj => by rw [hk.cell0 b6 j h.l6]; exact h.cT j hj, h.bW, h.bT⟩
end
theorem mkS_rng {es : List Ent} (hs : SortE es) (h : ∀ x ∈ es, EntOk x) (a n : Int) : 0 ≤ mkS es a n ∧ mkS es a n ≤ 1000 := by
  unfold mkS
  cases hw : wantE es a n with
  | none => simp
  | some x => exact h x ((want_iff hs).1 hw).1
def updW (W : Nat → Int) (k : Nat) (s m : Int) : Nat → Int := fun j => if j = k * 2 then s else if j = k * 2 + 1 then m else W j
def updH (Hs : Nat → Bool) (k : Nat) (v : Bool) : Nat → Bool := fun j => if j = k then v else Hs j
/-- The loop over marks: those below n are as they are now. -/
structure SkM (lo nx0 : Nat) (H0 : AH) (pt : Nat) (e : Eng) (b4 b5 b6 : Nat) (T : Nat → Int) (W0 : Nat → Int) (Hs0 : Nat → Bool) (v0 : Value) (i : Int) (m : Nat) (env : Env) (H : AH) (nx n : Nat) (y : ELay) (col : Nat → Nat) (W : Nat → Int) (Hs : Nat → Bool) : Prop where
  hm : m = 18 - n
  hn : n ≤ 18
  henv : env = [(0, v0), (3, .pointer (some ⟨pt, 0, none⟩)), (4, .pointer (some ⟨b4, 0, none⟩)), (5, .pointer (some ⟨b5, 0, none⟩)), (6, .pointer (some ⟨b6, 0, none⟩)), (7, .int .i64 i), (17, .int .i64 n)]
  st : EngS lo nx0 H0 pt (fun _ => 0) e H nx y col
  sa : SnkA nx0 nx H col b4 b5 b6 W Hs T
  done : ∀ k : Nat, k < n → firstI (pfxA k) (pfxN k) = k → Hs k = (wantE e.es (pfxA k) (pfxN k)).isSome ∧ W (k * 2) = mkS e.es (pfxA k) (pfxN k) ∧ W (k * 2 + 1) = mkM e.es (pfxA k) (pfxN k)
  todo : ∀ k : Nat, n ≤ k → Hs k = Hs0 k ∧ W (k * 2) = W0 (k * 2) ∧ W (k * 2 + 1) = W0 (k * 2 + 1)
noncomputable def skM : Code := codeAt [.T, .T, .T, .T, .T, .T, .H, .T, .I, .I, .T, .H, .I, .T, .T, .T, .T, .T, .T, .T, .T, .T, .T, .I] ((Tryz.f6.body).getD .skip)
set_option maxHeartbeats 4000000 in
set_option maxRecDepth 20000 in
theorem sinks_marks {lo nx0 : Nat} {H0 H1 : AH} {nx1 : Nat} {pt : Nat} {e : Eng} {y1 : ELay} {c1 : Nat → Nat} {b4 b5 b6 : Nat} {T W0 : Nat → Int} {Hs0 : Nat → Bool} {v0 : Value} {i : Int} {Q : Exit → Env → AH → Nat → Prop}
    (hlo : lo ≤ nx0) (hs : SortE e.es) (hok : ∀ x ∈ e.es, EntOk x) (hel : e.es.length ≤ 1000000) (st : EngS lo nx0 H0 pt (fun _ => 0) e H1 nx1 y1 c1) (sa : SnkA nx0 nx1 H1 c1 b4 b5 b6 W0 Hs0 T)
    (hold : ∀ k : Nat, k < 18 → firstI (pfxA k) (pfxN k) = k → Hs0 k = true → (wantE e.es (pfxA k) (pfxN k)).isSome = true ∧ nearI (W0 (k * 2)) (W0 (k * 2 + 1)) (mkS e.es (pfxA k) (pfxN k)) (mkM e.es (pfxA k) (pfxN k)) = false)
    (hK : ∀ H nx y col W Hs, EngS lo nx0 H0 pt (fun _ => 0) e H nx y col → SnkA nx0 nx H col b4 b5 b6 W Hs T → (∀ k : Nat, k < 18 → firstI (pfxA k) (pfxN k) = k → Hs k = (wantE e.es (pfxA k) (pfxN k)).isSome ∧ W (k * 2) = mkS e.es (pfxA k) (pfxN k) ∧ W (k * 2 + 1) = mkM e.es (pfxA k) (pfxN k)) → Q .normal [(0, v0), (3, .pointer (some ⟨pt, 0, none⟩)), (4, .pointer (some ⟨b4, 0, none⟩)), (5, .pointer (some ⟨b5, 0, none⟩)), (6, .pointer (some ⟨b6, 0, none⟩)), (7, .int .i64 i), (17, .int .i64 ((18 : Nat) : Int)), (155, .bool false)] H nx) :
    awp Tryz.prog lo L6 skM (blockQ 4 Q) [(0, v0), (3, .pointer (some ⟨pt, 0, none⟩)), (4, .pointer (some ⟨b4, 0, none⟩)), (5, .pointer (some ⟨b5, 0, none⟩)), (6, .pointer (some ⟨b6, 0, none⟩)), (7, .int .i64 i), (17, .int .i64 (0 : Nat))] H1 nx1 := by
  have hcode : skM = codeAt [.T, .T, .T, .T, .T, .T, .H, .T, .I, .I, .T, .H, .I, .T, .T, .T, .T, .T, .T, .T, .T, .T, .T, .I] ((Tryz.f6.body).getD .skip) := rfl
  simp only [Tryz.f6, Option.getD_some, codeAt_H, codeAt_T, codeAt_I, codeAt_L, codeAt_C, codeAt_P, codeAt_nil] at hcode
  rw [hcode]
  clear hcode
  refine awp_loop (fun m env H nx => ∃ n y col W Hs, SkM lo nx0 H0 pt e b4 b5 b6 T W0 Hs0 v0 i m env H nx n y col W Hs) 18 ⟨0, y1, c1, W0, Hs0, ⟨by omega, by omega, rfl, st, sa, fun k hk => by omega, fun k hk => ⟨rfl, rfl, rfl⟩⟩⟩ (fun m env H nx ⟨n, y, col, W, Hs, hI⟩ hnx => ?_)
  obtain ⟨hm, hn, henv, st, sa, hdone, htodo⟩ := hI
  subst henv
  have hle := st.le
  by_cases hlt : n < 18
  · have hcast : ((n : Int) + 1) = ((n + 1 : Nat) : Int) := by omega
    simp (disch := omega) only [go_sem, ↓reduceIte ]
    refine (pfx_c (n : Int) (by omega) (by omega) _ _).mono fun v H2 nx2 _ ⟨hv, hx2, hk2⟩ => ?_
    subst hv
    have s2 := (EngS.refl st.a).still hk2 hx2
    simp (disch := omega) only [go_sem, ↓reduceIte ]
    refine (emarkW_c s2.a hs hel (pfxA n) (pfxN n)).mono fun v H3 nx3 _ ⟨hv, hx3, hk3⟩ => ?_
    subst hv
    have hmr := mkS_rng hs hok (pfxA n) (pfxN n)
    have s3 := s2.still hk3 hx3
    simp (disch := omega) only [go_sem, ↓reduceIte ]
    intro b18 hb18
    simp (disch := omega) only [go_sem, ↓reduceIte ]
    have k18 : Kp (fun _ => False) nx3 H3 (((H3.new b18 #[.int .u16 0, .int .u16 0] 52).put b18 0 (.int .u16 (mkS e.es (pfxA n) (pfxN n)))).put b18 1 (.int .u16 (mkM e.es (pfxA n) (pfxN n)))) := (by repeat first | exact Kp.refl _ _ _ | refine Kp.dropT ?_ (.inl (by omega)) | refine Kp.put ?_ (.inl (by omega)) | refine Kp.new ?_ (by omega) | refine Kp.put ?_ (.inr (by omega)) | refine Kp.newO ?_ (by omega) | refine Kp.setO ?_ (.inl (by omega)) | refine Kp.setO ?_ (.inr (by omega)) | refine Kp.trans0 ?_ (by assumption) (by omega) | refine Kp.transS ?_ (by assumption) (by omega) (fun b hb hT => by first | omega | (dsimp only at hT ⊢; omega) | (simp only at hT ⊢; omega))) 
    have l18 : loadN (((H3.new b18 #[.int .u16 0, .int .u16 0] 52).put b18 0 (.int .u16 (mkS e.es (pfxA n) (pfxN n)))).put b18 1 (.int .u16 (mkM e.es (pfxA n) (pfxN n)))) b18 0 2 = some [.int .u16 (mkS e.es (pfxA n) (pfxN n)), .int .u16 (mkM e.es (pfxA n) (pfxN n))] := by simp (disch := omega) only [go_sem, ↓reduceIte ]
    have s4 := s3.still (nx2 := b18 + 1) k18 (by omega)
    generalize (((H3.new b18 #[.int .u16 0, .int .u16 0] 52).put b18 0 (.int .u16 (mkS e.es (pfxA n) (pfxN n)))).put b18 1 (.int .u16 (mkM e.es (pfxA n) (pfxN n)))) = M at k18 l18 s4 ⊢
    refine (pfx_c (n : Int) (by omega) (by omega) _ _).mono fun v H5 nx5 _ ⟨hv, hx5, hk5⟩ => ?_
    subst hv
    have s5 := s4.still hk5 hx5
    simp (disch := omega) only [go_sem, ↓reduceIte ]
    refine (first07_c (pfxA n) (pfxN n)).mono fun v H6 nx6 _ ⟨hv, hx6, hk6⟩ => ?_
    subst hv
    have s6 := s5.still hk6 hx6
    have st6 := st.trans s6
    have sa6 := sa.step s6
    have l186 : loadN H6 b18 0 2 = some [.int .u16 (mkS e.es (pfxA n) (pfxN n)), .int .u16 (mkM e.es (pfxA n) (pfxN n))] := by
      rw [loadN_two (fun o => (hk6.cell0 b18 o (by omega)).trans (hk5.cell0 b18 o (by omega)))]
      exact l18
    have hrg := first_rng (pfxA n) (pfxN n)
    have dn : ∀ (W' : Nat → Int) (Hs' : Nat → Bool), (∀ k, k ≠ n → Hs' k = Hs k ∧ W' (k * 2) = W (k * 2) ∧ W' (k * 2 + 1) = W (k * 2 + 1)) → (firstI (pfxA n) (pfxN n) = n → Hs' n = (wantE e.es (pfxA n) (pfxN n)).isSome ∧ W' (n * 2) = mkS e.es (pfxA n) (pfxN n) ∧ W' (n * 2 + 1) = mkM e.es (pfxA n) (pfxN n)) →
        (∀ k : Nat, k < n + 1 → firstI (pfxA k) (pfxN k) = k → Hs' k = (wantE e.es (pfxA k) (pfxN k)).isSome ∧ W' (k * 2) = mkS e.es (pfxA k) (pfxN k) ∧ W' (k * 2 + 1) = mkM e.es (pfxA k) (pfxN k)) ∧ (∀ k : Nat, n + 1 ≤ k → Hs' k = Hs0 k ∧ W' (k * 2) = W0 (k * 2) ∧ W' (k * 2 + 1) = W0 (k * 2 + 1)) := fun W' Hs' hk1 hk2 =>
      ⟨fun k hk hfk => by
        by_cases hkn : k = n
        · subst hkn
          exact hk2 hfk
        · rw [(hk1 k hkn).1, (hk1 k hkn).2.1, (hk1 k hkn).2.2]
          exact hdone k (by omega) hfk, fun k hk => by
        rw [(hk1 k (by omega)).1, (hk1 k (by omega)).2.1, (hk1 k (by omega)).2.2]
        exact htodo k (by omega)⟩
    by_cases hf : firstI (pfxA n) (pfxN n) = n
    · have fin : ∀ (H7 : AH) (nx7 : Nat), nx6 ≤ nx7 → Kp (fun _ => False) nx6 H6 H7 → ∃ m', m' < m ∧ ∃ n' y' col' W' Hs', SkM lo nx0 H0 pt e b4 b5 b6 T W0 Hs0 v0 i m' [(0, v0), (3, .pointer (some ⟨pt, 0, none⟩)), (4, .pointer (some ⟨b4, 0, none⟩)), (5, .pointer (some ⟨b5, 0, none⟩)), (6, .pointer (some ⟨b6, 0, none⟩)), (7, .int .i64 i), (17, .int .i64 ((n + 1 : Nat) : Int))] (((H7.put b4 (n * 2) (.int .u16 (mkS e.es (pfxA n) (pfxN n)))).put b4 (n * 2 + 1) (.int .u16 (mkM e.es (pfxA n) (pfxN n)))).put b5 n (.bool (wantE e.es (pfxA n) (pfxN n)).isSome)) nx7 n' y' col' W' Hs' := fun H7 nx7 hn7 hk7 => by
        have s7 := s6.still hk7 hn7
        have sa7 := sa6.still hk7 hn7
        have st7 := st.trans s7
        have g4 := sa7.g4
        have g5 := sa7.g5
        have l4 := sa7.l4
        have l5 := sa7.l5
        have n45 := sa7.n45
        have n46 := sa7.n46
        have n56 := sa7.n56
        have hlo4 : lo ≤ b4 := by omega
        have hlo5 : lo ≤ b5 := by omega
        have hle7 := s7.le
        have kk : Kp (fun b => b = b4 ∨ b = b5) nx7 H7 (((H7.put b4 (n * 2) (.int .u16 (mkS e.es (pfxA n) (pfxN n)))).put b4 (n * 2 + 1) (.int .u16 (mkM e.es (pfxA n) (pfxN n)))).put b5 n (.bool (wantE e.es (pfxA n) (pfxN n)).isSome)) := (by repeat first | exact Kp.refl _ _ _ | refine Kp.dropT ?_ (.inl (by omega)) | refine Kp.put ?_ (.inl (by omega)) | refine Kp.new ?_ (by omega) | refine Kp.put ?_ (.inr (by omega)) | refine Kp.newO ?_ (by omega) | refine Kp.setO ?_ (.inl (by omega)) | refine Kp.setO ?_ (.inr (by omega)) | refine Kp.trans0 ?_ (by assumption) (by omega) | refine Kp.transS ?_ (by assumption) (by omega) (fun b hb hT => by first | omega | (dsimp only at hT ⊢; omega) | (simp only at hT ⊢; omega))) 
        have stf := st7.step (kk.mono (Nat.le_refl _) (fun b _ hb => .inr (by omega))) (Nat.le_refl _) (st7.a.kp' (nx' := nx7) kk (Nat.le_refl _) (fun b hb hc => by
          rcases hc with rfl | rfl
          · exact hb sa7.z4
          · exact hb sa7.z5)) (fun b hb => .inl hb)
        have hd := dn (updW W n (mkS e.es (pfxA n) (pfxN n)) (mkM e.es (pfxA n) (pfxN n))) (updH Hs n (wantE e.es (pfxA n) (pfxN n)).isSome) (fun k hk => ⟨if_neg hk, by unfold updW; rw [if_neg (by omega), if_neg (by omega)], by unfold updW; rw [if_neg (by omega), if_neg (by omega)]⟩) (fun _ => ⟨if_pos rfl, if_pos rfl, by unfold updW; rw [if_neg (by omega), if_pos rfl]⟩)
        refine ⟨18 - (n + 1), by omega, n + 1, y, col, _, _, ⟨rfl, by omega, rfl, stf, ⟨sa7.g4, sa7.g5, sa7.g6, sa7.l4, sa7.l5, sa7.l6, sa7.z4, sa7.z5, sa7.z6, sa7.n45, sa7.n46, sa7.n56, fun j hj => ?_, fun j hj => ?_, fun j hj => ?_, fun k hk => ?_, sa7.bT⟩, hd.1, hd.2⟩⟩
        · have hc := sa7.cW j hj
          unfold updW
          by_cases h1 : j = n * 2
          · subst h1
            rw [if_pos rfl]
            simp (disch := omega) only [go_sem, ↓reduceIte ]
          · rw [if_neg h1]
            by_cases h2 : j = n * 2 + 1
            · subst h2
              rw [if_pos rfl]
              simp (disch := omega) only [go_sem, ↓reduceIte ]
            · rw [if_neg h2]
              simp (disch := omega) only [go_sem, ↓reduceIte , hc]
        · have hc := sa7.cH j hj
          unfold updH
          by_cases h1 : j = n
          · subst h1
            rw [if_pos rfl]
            simp (disch := omega) only [go_sem, ↓reduceIte ]
          · rw [if_neg h1]
            simp (disch := omega) only [go_sem, ↓reduceIte , hc]
        · have hc := sa7.cT j hj
          simp (disch := omega) only [go_sem, ↓reduceIte , hc]
        · unfold updW
          by_cases h1 : k * 2 = n * 2
          · rw [if_pos h1]
            omega
          · rw [if_neg h1, if_neg (by omega)]
            exact sa7.bW k hk
      have g4 := sa6.g4
      have g5 := sa6.g5
      have l4 := sa6.l4
      have l5 := sa6.l5
      have n45 := sa6.n45
      have hlo4 : lo ≤ b4 := by omega
      have hlo5 : lo ≤ b5 := by omega
      have hH : H6.c b5 n = some (.bool (Hs n)) := sa6.cH n hlt
      have hW0 : H6.c b4 (n * 2) = some (.int .u16 (W (n * 2))) := sa6.cW _ (by omega)
      have hW1 : H6.c b4 (n * 2 + 1) = some (.int .u16 (W (n * 2 + 1))) := sa6.cW _ (by omega)
      simp (disch := omega) only [go_sem, ↓reduceIte , hf]
      refine awp_draw ord6x32 (by kernel_rfl) ?_
      cases hh : Hs n with
      | false =>
        rw [hh] at hH
        simp (disch := omega) only [go_sem, ↓reduceIte , ord6x32, hH, hW0, hW1, l186, hcast]
        exact fin H6 nx6 (Nat.le_refl _) (Kp.refl _ _ _)
      | true =>
        rw [hh] at hH
        have ht := htodo n (Nat.le_refl n)
        have ho := hold n hlt hf (by rw [← ht.1]; exact hh)
        rw [← ht.2.1, ← ht.2.2] at ho
        have hsome := ho.1
        have l4' : loadN H6 b4 (n * 2) 2 = some [.int .u16 (W (n * 2)), .int .u16 (W (n * 2 + 1))] := by simp (disch := omega) only [go_sem, ↓reduceIte , hW0, hW1]
        have hbw := sa6.bW n hlt
        simp (disch := omega) only [go_sem, ↓reduceIte , ord6x32, hH, hsome, l4', l186]
        refine (nearer01_c (W (n * 2)) (W (n * 2 + 1)) (mkS e.es (pfxA n) (pfxN n)) (mkM e.es (pfxA n) (pfxN n)) hbw.1 hbw.2 hmr.1 (by omega) _ _).mono fun v H7 nx7 _ ⟨hv, hx7, hk7⟩ => ?_
        subst hv
        rw [ho.2]
        have hf7 := fin H7 nx7 hx7 hk7
        rw [hsome] at hf7
        have hW07 : H7.c b4 (n * 2) = some (.int .u16 (W (n * 2))) := by rw [hk7.cell0 b4 _ (by omega)]; exact hW0
        have hW17 : H7.c b4 (n * 2 + 1) = some (.int .u16 (W (n * 2 + 1))) := by rw [hk7.cell0 b4 _ (by omega)]; exact hW1
        have hH7 : H7.c b5 n = some (.bool true) := by rw [hk7.cell0 b5 _ (by omega)]; exact hH
        have l187 : loadN H7 b18 0 2 = some [.int .u16 (mkS e.es (pfxA n) (pfxN n)), .int .u16 (mkM e.es (pfxA n) (pfxN n))] := by rw [loadN_two (fun o => hk7.cell0 b18 o (by omega))]; exact l186
        simp (disch := omega) only [go_sem, ↓reduceIte , ord6x32, hW07, hW17, hH7, l187, hcast]
        exact ⟨dkeep_kp hk7, hf7⟩
    · have hd := dn W Hs (fun k _ => ⟨rfl, rfl, rfl⟩) (fun h => absurd h hf)
      simp (disch := omega) only [go_sem, ↓reduceIte , hf, hcast]
      exact ⟨18 - (n + 1), by omega, n + 1, y, col, W, Hs, ⟨rfl, by omega, rfl, st6, sa6, hd.1, hd.2⟩⟩
  · have ei : n = 18 := by omega
    subst ei
    simp (disch := omega) only [go_sem, ↓reduceIte ]
    exact hK _ _ _ _ _ _ st sa hdone
end Go.Proofs.YtngnbafididkcaaGreat
