/- EngineSinks: in our own logic: its loop over ways. -/
import Derived.Test.YtngnbafididkcaaGreatN64
namespace Go.Proofs.YtngnbafididkcaaGreat
open Go.RowKit
set_option linter.unusedSimpArgs false

/-- The loop over ways. -/
structure SkW (nx1 : Nat) (H1 : AH) (L : List Rt) (pt b4 b5 b6 : Nat) (v0 v12 : Value) (i : Int) (m : Nat) (env : Env) (H : AH) (nx j : Nat) : Prop where
  hm : m = L.length - j
  hj : j ≤ L.length
  henv : env = [(0, v0), (3, .pointer (some ⟨pt, 0, none⟩)), (4, .pointer (some ⟨b4, 0, none⟩)), (5, .pointer (some ⟨b5, 0, none⟩)), (6, .pointer (some ⟨b6, 0, none⟩)), (7, .int .i64 i), (12, v12), (13, .int .i64 j)]
  hx : nx1 ≤ nx
  hk : Kp (fun _ => False) nx1 H1 H
theorem rt_parts {nx : Nat} {H : AH} {g off c n own : Nat} {l : List Rt} (hs : SlA nx H 5 (.slice (some ⟨g, off, none⟩) n c) n (rtCells l) own) {i : Nat} {x : Rt} (hi : l[i]? = some x) :
    H.c g (off + i * 5) = some (.int .u32 x.addr) ∧ H.c g (off + i * 5 + 1) = some (.int .u8 x.len) ∧ H.c g (off + i * 5 + 2) = some (.int .i64 x.via) ∧ H.c g (off + i * 5 + 3) = some (.int .u16 x.metric) ∧ H.c g (off + i * 5 + 4) = some (.int .u16 x.seq) := by
  have key : ∀ (k : Nat) (v : Value), k < 5 → x.cells[k]? = some v → H.c g (off + i * 5 + k) = some v := fun k v hk hv => by
    have h := hs.cells.1 (5 * i + k) v (by
      have := flat_get (f := Rt.cells) (n := 5) (fun _ => rfl) l i x hi k hk
      rw [← hv]
      exact this)
    rw [← h]
    congr 1
    omega
  exact ⟨key 0 _ (by omega) rfl, key 1 _ (by omega) rfl, key 2 _ (by omega) rfl, key 3 _ (by omega) rfl, key 4 _ (by omega) rfl⟩
noncomputable def skW : Code := codeAt [.T, .T, .T, .T, .T, .T, .H, .T, .I, .I, .T, .H, .I, .T, .T, .T, .T, .T, .T, .T, .T, .H, .T, .I] ((Tryz.f6.body).getD .skip)
set_option maxHeartbeats 4000000 in
set_option maxRecDepth 20000 in
theorem sinks_ways {lo nx0 : Nat} {H0 H1 : AH} {nx1 : Nat} {pt : Nat} {e : Eng} {y1 : ELay} {c1 : Nat → Nat} {b4 b5 b6 : Nat} {T W : Nat → Int} {Hs : Nat → Bool} {L : List Rt} {v0 v12 : Value} {o12 : Nat} {i : Int} {K0 : Env → AH → Nat → Prop} {Q : Exit → Env → AH → Nat → Prop}
    (hlo : lo ≤ nx0) (hs : SortE e.es) (hok : ∀ x ∈ e.es, EntOk x) (hel : e.es.length ≤ 1000000) (st : EngS lo nx0 H0 pt (fun _ => 0) e H1 nx1 y1 c1) (sa : SnkA nx0 nx1 H1 c1 b4 b5 b6 W Hs T) (hsl : SlA nx1 H1 5 v12 L.length (rtCells L) o12) (hL : L.length ≤ 1000000)
    (hw : ∀ r ∈ L, r = ownR ∨ WayOk e.es T r) (hsq : ∀ r ∈ L, 0 ≤ r.seq ∧ r.seq ≤ 1000)
    (hK : ∀ H nx, nx1 ≤ nx → Kp (fun _ => False) nx1 H1 H → K0 ([(0, v0), (3, .pointer (some ⟨pt, 0, none⟩)), (4, .pointer (some ⟨b4, 0, none⟩)), (5, .pointer (some ⟨b5, 0, none⟩)), (6, .pointer (some ⟨b6, 0, none⟩)), (7, .int .i64 i), (12, v12), (13, .int .i64 L.length), (85, .bool false)]) H nx) :
    awp Tryz.prog lo L6 skW (blockQ 2 (thenQ K0 Q)) ([(0, v0), (3, .pointer (some ⟨pt, 0, none⟩)), (4, .pointer (some ⟨b4, 0, none⟩)), (5, .pointer (some ⟨b5, 0, none⟩)), (6, .pointer (some ⟨b6, 0, none⟩)), (7, .int .i64 i), (12, v12), (13, .int .i64 (0 : Nat))]) H1 nx1 := by
  have hcode : skW = codeAt [.T, .T, .T, .T, .T, .T, .H, .T, .I, .I, .T, .H, .I, .T, .T, .T, .T, .T, .T, .T, .T, .H, .T, .I] ((Tryz.f6.body).getD .skip) := rfl
  simp only [Tryz.f6, Option.getD_some, codeAt_H, codeAt_T, codeAt_I, codeAt_L, codeAt_C, codeAt_P, codeAt_nil] at hcode
  rw [hcode]
  clear hcode
  refine awp_loop (fun m env H nx => ∃ j, SkW nx1 H1 L pt b4 b5 b6 v0 v12 i m env H nx j) L.length ⟨0, ⟨by omega, by omega, rfl, Nat.le_refl _, Kp.refl _ _ _⟩⟩ (fun m env H nx ⟨j, hI⟩ hnx => ?_)
  obtain ⟨hm, hj, henv, hx, hk⟩ := hI
  subst henv
  have hle := st.le
  have hs1 := hsl.kp hk hx (by simp)
  obtain ⟨aa, ac, rfl⟩ := hsl.form
  have hone := hsl.one
  by_cases hlt : j < L.length
  · obtain ⟨g, off, cap, hv, hgo⟩ := hsl.open (by omega)
    simp only [Value.slice.injEq, true_and] at hv
    obtain ⟨rfl, rfl⟩ := hv
    have hx0 : L[j]? = some L[j] := List.getElem?_eq_getElem hlt
    have hwr := hw L[j] (List.getElem_mem hlt)
    have hsr := hsq L[j] (List.getElem_mem hlt)
    generalize L[j] = r at hx0 hwr hsr
    obtain ⟨q0, q1, q2, q3, q4⟩ := rt_parts hs1 hx0
    have l2 : loadN H g (off + j * 5) 2 = some [.int .u32 r.addr, .int .u8 r.len] := by simp (disch := omega) only [go_sem, ↓reduceIte , q0, q1]
    have hcast : ((j : Int) + 1) = ((j + 1 : Nat) : Int) := by omega
    have s1 := (EngS.refl st.a).still hk hx
    simp (disch := omega) only [go_sem, ↓reduceIte , l2]
    refine (first07_c r.addr r.len).mono fun v H2 nx2 _ ⟨hv, hx2, hk2⟩ => ?_
    subst hv
    have hk12 := hk.trans (U := fun _ => False) hk2 hx (fun _ _ h => h) (fun _ _ h => h)
    rcases hwr with rfl | ⟨b, k, hb, hk18, hvia, hfi, hsome, hn1, hn2⟩
    · have hfo : firstI ownR.addr ownR.len = -1 := first_own
      simp (disch := omega) only [go_sem, ↓reduceIte , hfo, hcast]
      exact ⟨L.length - (j + 1), by omega, j + 1, ⟨rfl, by omega, rfl, by omega, hk12⟩⟩
    · obtain ⟨p0, p1, p2, p3, p4⟩ := rt_parts (hs1.kp hk2 hx2 (by simp)) hx0
      have l22 : loadN H2 g (off + j * 5) 2 = some [.int .u32 r.addr, .int .u8 r.len] := by simp (disch := omega) only [go_sem, ↓reduceIte , p0, p1]
      have s2 := s1.still hk2 hx2
      simp (disch := omega) only [go_sem, ↓reduceIte , hfi, l22]
      refine (emarkW_c s2.a hs hel r.addr r.len).mono fun v H3 nx3 _ ⟨hv, hx3, hk3⟩ => ?_
      subst hv
      rw [hsome]
      have hmr := mkS_rng hs hok r.addr r.len
      simp (disch := omega) only [go_sem, ↓reduceIte ]
      intro b15 hb15
      simp (disch := omega) only [go_sem, ↓reduceIte ]
      have k15 : Kp (fun _ => False) nx3 H3 (((H3.new b15 #[.int .u16 0, .int .u16 0] 52).put b15 0 (.int .u16 (mkS e.es r.addr r.len))).put b15 1 (.int .u16 (mkM e.es r.addr r.len))) := (by repeat first | exact Kp.refl _ _ _ | refine Kp.dropT ?_ (.inl (by omega)) | refine Kp.put ?_ (.inl (by omega)) | refine Kp.new ?_ (by omega) | refine Kp.put ?_ (.inr (by omega)) | refine Kp.newO ?_ (by omega) | refine Kp.setO ?_ (.inl (by omega)) | refine Kp.setO ?_ (.inr (by omega)) | refine Kp.trans0 ?_ (by assumption) (by omega) | refine Kp.transS ?_ (by assumption) (by omega) (fun b hb hT => by first | omega | (dsimp only at hT ⊢; omega) | (simp only at hT ⊢; omega))) 
      have l15 : loadN (((H3.new b15 #[.int .u16 0, .int .u16 0] 52).put b15 0 (.int .u16 (mkS e.es r.addr r.len))).put b15 1 (.int .u16 (mkM e.es r.addr r.len))) b15 0 2 = some [.int .u16 (mkS e.es r.addr r.len), .int .u16 (mkM e.es r.addr r.len)] := by simp (disch := omega) only [go_sem, ↓reduceIte ]
      generalize (((H3.new b15 #[.int .u16 0, .int .u16 0] 52).put b15 0 (.int .u16 (mkS e.es r.addr r.len))).put b15 1 (.int .u16 (mkM e.es r.addr r.len))) = M at k15 l15 ⊢
      have k1M : Kp (fun _ => False) nx1 H1 M := (hk12.trans (U := fun _ => False) hk3 (by omega) (fun _ _ h => h) (fun _ _ h => h)).trans (U := fun _ => False) k15 (by omega) (fun _ _ h => h) (fun _ _ h => h)
      have hsM := hsl.kp k1M (nx' := b15 + 1) (by omega) (by simp)
      have saM := sa.still k1M (nx' := b15 + 1) (by omega)
      obtain ⟨r0, r1, r2, r3, r4⟩ := rt_parts hsM hx0
      rcases (show b = 0 ∨ b = 1 by omega) with rfl | rfl
      · have hv1 : r.via = 1 := by omega
        rw [hv1] at r2
        have t0 : M.c b6 (((1 : Int) - 1).toNat * 36 + k * 2) = some (.int .u16 (T (0 * 36 + k * 2))) := saM.cT (0 * 36 + k * 2) (by omega)
        have t1 : M.c b6 (((1 : Int) - 1).toNat * 36 + k * 2 + 1) = some (.int .u16 (T (0 * 36 + k * 2 + 1))) := saM.cT (0 * 36 + k * 2 + 1) (by omega)
        have hbt := saM.bT (0 * 18 + k) (by omega)
        rw [show (0 * 18 + k) * 2 = 0 * 36 + k * 2 by omega] at hbt
        generalize T (0 * 36 + k * 2 + 1) = tm at t1 hn1
        generalize T (0 * 36 + k * 2) = ts at t0 hn1 hbt
        refine awp_draw ord6x25 (by kernel_rfl) ?_
        simp (disch := omega) only [go_sem, ↓reduceIte , ord6x25, r2, r3, r4, l15, t0, t1]
        refine (nearer01_c ts tm (mkS e.es r.addr r.len) (mkM e.es r.addr r.len) hbt.1 hbt.2 hmr.1 (by omega) _ _).mono fun v H7 nx7 _ ⟨hv, hx7, hk7⟩ => ?_
        subst hv
        rw [hn1]
        have hk17 := k1M.trans (U := fun _ => False) hk7 (by omega) (fun _ _ h => h) (fun _ _ h => h)
        obtain ⟨w0, w1, w2, w3, w4⟩ := rt_parts (hsM.kp hk7 hx7 (by simp)) hx0
        rw [hv1] at w2
        have l157 : loadN H7 b15 0 2 = some [.int .u16 (mkS e.es r.addr r.len), .int .u16 (mkM e.es r.addr r.len)] := by rw [loadN_two (fun o => hk7.cell0 b15 o (by omega))]; exact l15
        simp (disch := omega) only [go_sem, ↓reduceIte , ord6x25, r2, r3, r4, l15, w2, w3, w4, l157]
        refine ⟨dkeep_kp hk7, ?_⟩
        refine (nearer01_c r.seq r.metric (mkS e.es r.addr r.len) (mkM e.es r.addr r.len) hsr.1 (by omega) hmr.1 (by omega) _ _).mono fun v H8 nx8 _ ⟨hv, hx8, hk8⟩ => ?_
        subst hv
        rw [hn2]
        have hk18 := hk17.trans (U := fun _ => False) hk8 (by omega) (fun _ _ h => h) (fun _ _ h => h)
        obtain ⟨u0, u1, u2, u3, u4⟩ := rt_parts ((hsM.kp hk7 hx7 (by simp)).kp hk8 hx8 (by simp)) hx0
        rw [hv1] at u2
        have l158 : loadN H8 b15 0 2 = some [.int .u16 (mkS e.es r.addr r.len), .int .u16 (mkM e.es r.addr r.len)] := by rw [loadN_two (fun o => hk8.cell0 b15 o (by omega))]; exact l157
        simp (disch := omega) only [go_sem, ↓reduceIte , ord6x25, r2, r3, r4, l15, w2, w3, w4, l157, u2, u3, u4, l158, hcast]
        refine ⟨dkeep_kp (hk7.trans (U := fun _ => False) hk8 hx7 (fun _ _ h => h) (fun _ _ h => h)), ?_⟩
        exact ⟨L.length - (j + 1), by omega, j + 1, ⟨rfl, by omega, rfl, by omega, hk18⟩⟩
      · have hv1 : r.via = 2 := by omega
        rw [hv1] at r2
        have t0 : M.c b6 (((2 : Int) - 1).toNat * 36 + k * 2) = some (.int .u16 (T (1 * 36 + k * 2))) := saM.cT (1 * 36 + k * 2) (by omega)
        have t1 : M.c b6 (((2 : Int) - 1).toNat * 36 + k * 2 + 1) = some (.int .u16 (T (1 * 36 + k * 2 + 1))) := saM.cT (1 * 36 + k * 2 + 1) (by omega)
        have hbt := saM.bT (1 * 18 + k) (by omega)
        rw [show (1 * 18 + k) * 2 = 1 * 36 + k * 2 by omega] at hbt
        generalize T (1 * 36 + k * 2 + 1) = tm at t1 hn1
        generalize T (1 * 36 + k * 2) = ts at t0 hn1 hbt
        refine awp_draw ord6x25 (by kernel_rfl) ?_
        simp (disch := omega) only [go_sem, ↓reduceIte , ord6x25, r2, r3, r4, l15, t0, t1]
        refine (nearer01_c ts tm (mkS e.es r.addr r.len) (mkM e.es r.addr r.len) hbt.1 hbt.2 hmr.1 (by omega) _ _).mono fun v H7 nx7 _ ⟨hv, hx7, hk7⟩ => ?_
        subst hv
        rw [hn1]
        have hk17 := k1M.trans (U := fun _ => False) hk7 (by omega) (fun _ _ h => h) (fun _ _ h => h)
        obtain ⟨w0, w1, w2, w3, w4⟩ := rt_parts (hsM.kp hk7 hx7 (by simp)) hx0
        rw [hv1] at w2
        have l157 : loadN H7 b15 0 2 = some [.int .u16 (mkS e.es r.addr r.len), .int .u16 (mkM e.es r.addr r.len)] := by rw [loadN_two (fun o => hk7.cell0 b15 o (by omega))]; exact l15
        simp (disch := omega) only [go_sem, ↓reduceIte , ord6x25, r2, r3, r4, l15, w2, w3, w4, l157]
        refine ⟨dkeep_kp hk7, ?_⟩
        refine (nearer01_c r.seq r.metric (mkS e.es r.addr r.len) (mkM e.es r.addr r.len) hsr.1 (by omega) hmr.1 (by omega) _ _).mono fun v H8 nx8 _ ⟨hv, hx8, hk8⟩ => ?_
        subst hv
        rw [hn2]
        have hk18 := hk17.trans (U := fun _ => False) hk8 (by omega) (fun _ _ h => h) (fun _ _ h => h)
        obtain ⟨u0, u1, u2, u3, u4⟩ := rt_parts ((hsM.kp hk7 hx7 (by simp)).kp hk8 hx8 (by simp)) hx0
        rw [hv1] at u2
        have l158 : loadN H8 b15 0 2 = some [.int .u16 (mkS e.es r.addr r.len), .int .u16 (mkM e.es r.addr r.len)] := by rw [loadN_two (fun o => hk8.cell0 b15 o (by omega))]; exact l157
        simp (disch := omega) only [go_sem, ↓reduceIte , ord6x25, r2, r3, r4, l15, w2, w3, w4, l157, u2, u3, u4, l158, hcast]
        refine ⟨dkeep_kp (hk7.trans (U := fun _ => False) hk8 hx7 (fun _ _ h => h) (fun _ _ h => h)), ?_⟩
        exact ⟨L.length - (j + 1), by omega, j + 1, ⟨rfl, by omega, rfl, by omega, hk18⟩⟩
  · have ei : j = L.length := by omega
    subst ei
    simp (disch := omega) only [go_sem, ↓reduceIte ]
    exact hK _ _ hx hk
end Go.Proofs.YtngnbafididkcaaGreat
