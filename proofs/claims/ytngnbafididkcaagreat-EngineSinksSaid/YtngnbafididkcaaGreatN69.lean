/- EngineSinks: in our own logic: whole. -/
import Derived.Test.YtngnbafididkcaaGreatN68
namespace Go.Proofs.YtngnbafididkcaaGreat
open Go.RowKit
set_option linter.unusedSimpArgs false

structure SkI (lo nx0 : Nat) (H0 : AH) (pt b4 b5 b6 : Nat) (l : List ActS) (v0 : Value) (m : Nat) (env : Env) (H : AH) (nx i : Nat) (e : Eng) (y : ELay) (col : Nat → Nat) (W : Nat → Int) (Hs : Nat → Bool) (T : Nat → Int) : Prop where
  hm : m = l.length - i
  hi : i ≤ l.length
  henv : ∃ rest, env = (0, v0) :: (3, .pointer (some ⟨pt, 0, none⟩)) :: (4, .pointer (some ⟨b4, 0, none⟩)) :: (5, .pointer (some ⟨b5, 0, none⟩)) :: (6, .pointer (some ⟨b6, 0, none⟩)) :: (7, .int .i64 (i : Nat)) :: rest
  st : EngS lo nx0 H0 pt (fun _ => 0) e H nx y col
  hE : SinkE e T i i
  sa : SnkA nx0 nx H col b4 b5 b6 W Hs T
  hold : OldM e W Hs
noncomputable def skL : Code := codeAt [.T, .T, .T, .T, .T, .T, .H, .T, .I] ((Tryz.f6.body).getD .skip)
set_option maxHeartbeats 4000000 in
set_option maxRecDepth 20000 in
theorem sinks_loop {lo nx nx0 : Nat} {H H0 : AH} {pt b4 b5 b6 : Nat} {l : List ActS} {v0 : Value} {own : Nat} {e : Eng} {y : ELay} {col : Nat → Nat} {W : Nat → Int} {Hs : Nat → Bool} {T : Nat → Int} {K0 : Env → AH → Nat → Prop} {Q : Exit → Env → AH → Nat → Prop}
    (hlo : lo ≤ nx0) (hsl : SlA nx0 H0 5 v0 l.length (actS l) own) (hlen : l.length ≤ 60) (hok : ∀ x ∈ l, ActSOk x) (st : EngS lo nx0 H0 pt (fun _ => 0) e H nx y col) (hE : SinkE e T 0 0) (sa : SnkA nx0 nx H col b4 b5 b6 W Hs T) (hold : OldM e W Hs)
    (hK : ∀ e H nx y col rest, EngS lo nx0 H0 pt (fun _ => 0) e H nx y col → K0 ((0, v0) :: rest) H nx) :
    awp Tryz.prog lo L6 skL (blockQ 0 (thenQ K0 Q)) ((0, v0) :: (3, .pointer (some ⟨pt, 0, none⟩)) :: (4, .pointer (some ⟨b4, 0, none⟩)) :: (5, .pointer (some ⟨b5, 0, none⟩)) :: (6, .pointer (some ⟨b6, 0, none⟩)) :: (7, .int .i64 (0 : Nat)) :: []) H nx := by
  have hcode : skL = .loop (.seq (codeAt [.T, .T, .T, .T, .T, .T, .H, .T, .I, .I, .H] ((Tryz.f6.body).getD .skip)) (.seq (.block 1 skI0) (codeAt [.T, .T, .T, .T, .T, .T, .H, .T, .I, .I, .T, .T] ((Tryz.f6.body).getD .skip)))) := rfl
  simp only [Tryz.f6, Option.getD_some, codeAt_H, codeAt_T, codeAt_I, codeAt_L, codeAt_C, codeAt_P, codeAt_nil] at hcode
  rw [hcode]
  clear hcode
  refine awp_loop (fun m env H nx => ∃ i e y col W Hs T, SkI lo nx0 H0 pt b4 b5 b6 l v0 m env H nx i e y col W Hs T) l.length ⟨0, e, y, col, W, Hs, T, ⟨by omega, by omega, ⟨[], rfl⟩, st, hE, sa, hold⟩⟩ (fun m env H nx ⟨i, e, y, col, W, Hs, T, hI⟩ hnx => ?_)
  obtain ⟨hm, hi, ⟨rest, henv⟩, st, hE, sa, hold⟩ := hI
  subst henv
  have hs1 := hsl.kp st.kp0 st.le (by simp)
  obtain ⟨va, vc, rfl⟩ := hsl.form
  by_cases hlt : i < l.length
  · have hcast : ((i : Int) + 1) = ((i + 1 : Nat) : Int) := by omega
    simp (disch := omega) only [go_sem, ↓reduceIte ]
    refine sinks_round hlo hs1 hlt hlen hok st hE (by omega) (by omega) sa hold (fun e' H' nx' y' col' W' Hs' T' a1 a2 a3 a4 rest' => ?_)
    simp (disch := omega) only [go_sem, ↓reduceIte , hcast]
    exact ⟨l.length - (i + 1), by omega, i + 1, e', y', col', W', Hs', T', ⟨rfl, by omega, ⟨_, rfl⟩, a1, a2, a3, a4⟩⟩
  · simp (disch := omega) only [go_sem, ↓reduceIte ]
    exact hK _ _ _ _ _ _ st
theorem rep_at {n j : Nat} {v : Value} (h : j < n) : (List.replicate n v).toArray[j]? = some v := by
  rw [List.getElem?_toArray, List.getElem?_replicate, if_pos h]
noncomputable def skT0 : Code := ((Tryz.f6.body).getD .skip)
theorem z53_cells : (z53 : Value).cells = (List.replicate 36 (Value.int .u16 0)).toArray := by kernel_rfl
theorem z54_cells : (z54 : Value).cells = (List.replicate 18 (Value.bool false)).toArray := by kernel_rfl
theorem z55_cells : (z55 : Value).cells = (List.replicate 72 (Value.int .u16 0)).toArray := by kernel_rfl
set_option maxHeartbeats 4000000 in
set_option maxRecDepth 20000 in
theorem engineSinks_c {lo nx : Nat} {H : AH} {sv : Value} {l : List ActS} {own : Nat} (hs : SlA nx H 5 sv l.length (actS l) own) (hok : ∀ x ∈ l, ActSOk x) : ACalls Tryz.prog lo 6 #[sv] H nx (fun v H' nx' => v = .bool true ∧ nx ≤ nx' ∧ Kp (fun _ => False) nx H H') := by
  refine ACalls.withLo fun hlo => ?_
  refine acalls_of_awp (c := skT0) L6 Tryz.func6 rfl (by kernel_rfl) ?_
  have hcode : skT0 = .seq (codeAt [.H] ((Tryz.f6.body).getD .skip)) (.seq (codeAt [.T, .H] ((Tryz.f6.body).getD .skip)) (.seq (codeAt [.T, .T, .H] ((Tryz.f6.body).getD .skip)) (.seq (codeAt [.T, .T, .T, .H] ((Tryz.f6.body).getD .skip)) (.seq (codeAt [.T, .T, .T, .T, .H] ((Tryz.f6.body).getD .skip)) (.seq (codeAt [.T, .T, .T, .T, .T, .H] ((Tryz.f6.body).getD .skip)) (.seq (.seq (codeAt [.T, .T, .T, .T, .T, .T, .H, .H] ((Tryz.f6.body).getD .skip)) (.block 0 skL)) (codeAt [.T, .T, .T, .T, .T, .T, .T] ((Tryz.f6.body).getD .skip)))))))) := rfl
  simp only [Tryz.f6, Option.getD_some, codeAt_H, codeAt_T, codeAt_I, codeAt_L, codeAt_C, codeAt_P, codeAt_nil] at hcode
  rw [hcode]
  clear hcode
  have hmax := hs.maxLen
  obtain ⟨va, vc, rfl⟩ := hs.form
  simp (disch := omega) only [go_sem, ↓reduceIte ]
  refine awake17_c.mono fun v H1 nx1 _ ⟨hv, hx1, hk1⟩ => ?_
  subst hv
  by_cases hbig : 60 < l.length
  · simp (disch := omega) only [go_sem, ↓reduceIte ]
    refine awake17_c.mono fun v H2 nx2 _ ⟨hv, hx2, hk2⟩ => ?_
    subst hv
    simp (disch := omega) only [go_sem, ↓reduceIte ]
    exact ⟨by omega, hk1.trans (U := fun _ => False) hk2 (by omega) (fun _ _ h => h) (fun _ _ h => h)⟩
  simp (disch := omega) only [go_sem, ↓reduceIte ]
  refine (met17_c 96 10).mono fun v H2 nx2 _ ⟨q, y2, col, hv, st⟩ => ?_
  subst hv
  have hx2 := st.le
  simp (disch := omega) only [go_sem, ↓reduceIte , ↓z53_cells]
  intro b4 hb4
  simp (disch := omega) only [go_sem, ↓reduceIte , ↓z54_cells]
  intro b5 hb5
  simp (disch := omega) only [go_sem, ↓reduceIte , ↓z55_cells]
  intro b6 hb6
  simp (disch := omega) only [go_sem, ↓reduceIte ]
  have kM : Kp (fun _ => False) nx2 H2 (((H2.new b4 (List.replicate 36 (Value.int .u16 0)).toArray 53).new b5 (List.replicate 18 (Value.bool false)).toArray 54).new b6 (List.replicate 72 (Value.int .u16 0)).toArray 55) := (by repeat first | exact Kp.refl _ _ _ | refine Kp.dropT ?_ (.inl (by omega)) | refine Kp.put ?_ (.inl (by omega)) | refine Kp.new ?_ (by omega) | refine Kp.put ?_ (.inr (by omega)) | refine Kp.newO ?_ (by omega) | refine Kp.setO ?_ (.inl (by omega)) | refine Kp.setO ?_ (.inr (by omega)) | refine Kp.trans0 ?_ (by assumption) (by omega) | refine Kp.transS ?_ (by assumption) (by omega) (fun b hb hT => by first | omega | (dsimp only at hT ⊢; omega) | (simp only at hT ⊢; omega))) 
  have cW : ∀ j, j < 36 → (((H2.new b4 (List.replicate 36 (Value.int .u16 0)).toArray 53).new b5 (List.replicate 18 (Value.bool false)).toArray 54).new b6 (List.replicate 72 (Value.int .u16 0)).toArray 55).c b4 j = some (.int .u16 0) := fun j hj => by
    rw [new_other _ _ _ _ _ (by omega), new_other _ _ _ _ _ (by omega), new_same]
    exact rep_at hj
  have cH : ∀ j, j < 18 → (((H2.new b4 (List.replicate 36 (Value.int .u16 0)).toArray 53).new b5 (List.replicate 18 (Value.bool false)).toArray 54).new b6 (List.replicate 72 (Value.int .u16 0)).toArray 55).c b5 j = some (.bool false) := fun j hj => by
    rw [new_other _ _ _ _ _ (by omega), new_same]
    exact rep_at hj
  have cT : ∀ j, j < 72 → (((H2.new b4 (List.replicate 36 (Value.int .u16 0)).toArray 53).new b5 (List.replicate 18 (Value.bool false)).toArray 54).new b6 (List.replicate 72 (Value.int .u16 0)).toArray 55).c b6 j = some (.int .u16 0) := fun j hj => by
    rw [new_same]
    exact rep_at hj
  generalize (((H2.new b4 (List.replicate 36 (Value.int .u16 0)).toArray 53).new b5 (List.replicate 18 (Value.bool false)).toArray 54).new b6 (List.replicate 72 (Value.int .u16 0)).toArray 55) = M at kM cW cH cT ⊢
  have sM := st.still (nx2 := b6 + 1) kM (by omega)
  have zc : ∀ b, nx2 ≤ b → col b = 0 := fun b hb => Classical.byContradiction fun hc => by have := st.a.k.rng b hc; omega
  have sn : SnkA nx1 (b6 + 1) M col b4 b5 b6 (fun _ => 0) (fun _ => false) (fun _ => 0) := ⟨by omega, by omega, by omega, by omega, by omega, by omega, zc _ (by omega), zc _ (by omega), zc _ (by omega), by omega, by omega, by omega, cW, cH, cT, fun _ _ => by omega, fun _ _ => by omega⟩
  have hold : OldM (metE 96 10 2) (fun _ => 0) (fun _ => false) := fun k _ _ => ⟨rfl, rfl, rfl⟩
  refine sinks_loop (by omega) (hs.kp hk1 hx1 (by simp)) (by omega) hok sM (SinkE.start _) sn hold (fun e H3 nx3 y3 c3 rest st3 => ?_)
  have hx3 := st3.le
  simp (disch := omega) only [go_sem, ↓reduceIte ]
  exact ⟨by omega, hk1.trans (U := fun _ => False) st3.kp0 (by omega) (fun _ _ h => h) (fun _ _ h => h)⟩
end Go.Proofs.YtngnbafididkcaaGreat
