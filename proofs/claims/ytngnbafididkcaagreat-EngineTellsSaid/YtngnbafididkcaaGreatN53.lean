/- EngineTells: in our own logic. -/
import Derived.Test.YtngnbafididkcaaGreatN52
namespace Go.Proofs.YtngnbafididkcaaGreat
open Go.RowKit
set_option linter.unusedSimpArgs false

noncomputable def tlT8 : Code := codeAt [.T, .T, .T, .T, .T, .T, .T, .T] ((Tryz.f8.body).getD .skip)
set_option maxHeartbeats 4000000 in
set_option maxRecDepth 20000 in
theorem tells_mid {lo nx nx0 nxx : Nat} {H H0 HH : AH} {pt : Nat} {e : Eng} {y : ELay} {col : Nat → Nat} {p s x now : Int} {gone safe : Bool} {rest : Env} (hp : 0 ≤ p ∧ p ≤ 255) (hx : 0 ≤ x ∧ x ≤ 60000) (hnow : 0 ≤ now ∧ now ≤ 255) (st : EngS lo nx0 H0 pt (fun _ => 0) e H nx y col)
    (hid : e.id = 0) (hlk : e.lk = (metE 96 96 2).lk) (hhl : e.hello = 0) (hdue : e.due = true) (has : e.asks = []) (hT : TellOf e p s x gone) (hlo : lo ≤ nxx) (hnx : nxx ≤ nx0) (hk : Kp (fun _ => False) nxx HH H0) :
    awp Tryz.prog lo L8 tlT8 (retQ Tryz.prog Tryz.f8 fun v H' nx' => v = .bool true ∧ nxx ≤ nx' ∧ Kp (fun _ => False) nxx HH H') ((0, .int .u16 x) :: (1, .int .u16 s) :: (2, .int .u8 p) :: (3, .bool safe) :: (4, .bool gone) :: (5, .int .u8 now) :: (13, .pointer (some ⟨pt, 0, none⟩)) :: rest) H nx := by
  have hcode : tlT8 = .seq (codeAt [.T, .T, .T, .T, .T, .T, .T, .T, .H] ((Tryz.f8.body).getD .skip)) (.seq (codeAt [.T, .T, .T, .T, .T, .T, .T, .T, .T, .H] ((Tryz.f8.body).getD .skip)) tlT10) := rfl
  simp only [Tryz.f8, Option.getD_some, codeAt_H, codeAt_T, codeAt_I, codeAt_L, codeAt_C, codeAt_P, codeAt_nil] at hcode
  rw [hcode]
  clear hcode
  have hle := st.le
  simp (disch := omega) only [go_sem, ↓reduceIte ]
  refine (pfx_c p hp.1 hp.2 _ _).mono fun v H1 nx1 _ ⟨hv, hx1, hk1⟩ => ?_
  subst hv
  have s1 := st.still hk1 hx1
  simp (disch := omega) only [go_sem, ↓reduceIte ]
  refine buildSQ_all (n := 1) [.agg #[.int .u32 (pfxA p), .int .u8 (pfxN p), .bool false, .int .u32 0, .int .u8 0, .int .i64 0, .int .u16 0, .int .u16 0, .int .u16 s, .int .u16 (x + 97)]] sl72 zero71 (by omega) (by omega) rfl (by simp [cells_agg]) fun f hf => ?_
  have hlit := rw_lit H1 f 71 (rowE p s (x + 97))
  have kR : Kp (fun _ => False) nx1 H1 (H1.new f ([Value.agg #[.int .u32 (pfxA p), .int .u8 (pfxN p), .bool false, .int .u32 0, .int .u8 0, .int .i64 0, .int .u16 0, .int .u16 0, .int .u16 s, .int .u16 (x + 97)]].flatMap fun v => v.cells.toList).toArray 71) := (by repeat first | exact Kp.refl _ _ _ | refine Kp.dropT ?_ (.inl (by omega)) | refine Kp.put ?_ (.inl (by omega)) | refine Kp.new ?_ (by omega) | refine Kp.put ?_ (.inr (by omega)) | refine Kp.newO ?_ (by omega) | refine Kp.setO ?_ (.inl (by omega)) | refine Kp.setO ?_ (.inr (by omega)) | refine Kp.trans0 ?_ (by assumption) (by omega) | refine Kp.transS ?_ (by assumption) (by omega) (fun b hb hT => by first | omega | (dsimp only at hT ⊢; omega) | (simp only at hT ⊢; omega))) 
  have hc0 : ∀ b, b + 1 = f + 1 → col b = 0 := fun b hb => Classical.byContradiction fun hc => by have := s1.a.k.rng b hc; omega
  cases safe with
  | false =>
    have s2 := s1.still (nx2 := f + 1) kR (by omega)
    simp (disch := omega) only [go_sem, ↓reduceIte ]
    exact tells_tell hp hx hnow s2 hid hlk hhl hdue has hT hlit hc0 hlo hnx hk
  | true =>
    have hc9 : (H1.new f ([Value.agg #[.int .u32 (pfxA p), .int .u8 (pfxN p), .bool false, .int .u32 0, .int .u8 0, .int .i64 0, .int .u16 0, .int .u16 0, .int .u16 s, .int .u16 (x + 97)]].flatMap fun v => v.cells.toList).toArray 71).c f 9 = some (.int .u16 (x + 97)) := hlit.cells.1 9 _ rfl
    have hw := hlit.write (o := 9) (vs := [.int .u16 (x + 96)]) (by simp)
    generalize hM : (H1.new f ([Value.agg #[.int .u32 (pfxA p), .int .u8 (pfxN p), .bool false, .int .u32 0, .int .u8 0, .int .i64 0, .int .u16 0, .int .u16 0, .int .u16 s, .int .u16 (x + 97)]].flatMap fun v => v.cells.toList).toArray 71) = M at kR hc9 ⊢
    have hw : SlA (f + 1) (M.put f 9 (.int .u16 (x + 96))) 10 (.slice (some ⟨f, 0, none⟩) 1 1) 1 (rweCells [rowE p s (safeM x true)]) (f + 1) := by
      rw [← hM]
      exact hw
    have kR2 : Kp (fun _ => False) nx1 H1 (M.put f 9 (.int .u16 (x + 96))) := kR.trans (U := fun b => b = f) (nx' := nx1) (show Kp (fun b => b = f) nx1 M _ from (by repeat first | exact Kp.refl _ _ _ | refine Kp.dropT ?_ (.inl (by omega)) | refine Kp.put ?_ (.inl (by omega)) | refine Kp.new ?_ (by omega) | refine Kp.put ?_ (.inr (by omega)) | refine Kp.newO ?_ (by omega) | refine Kp.setO ?_ (.inl (by omega)) | refine Kp.setO ?_ (.inr (by omega)) | refine Kp.trans0 ?_ (by assumption) (by omega) | refine Kp.transS ?_ (by assumption) (by omega) (fun b hb hT => by first | omega | (dsimp only at hT ⊢; omega) | (simp only at hT ⊢; omega))) ) (Nat.le_refl _) (fun _ _ h => h.elim) (fun _ _ h => h) |>.mono (Nat.le_refl _) (fun b hb h => by omega)
    have s2 := s1.still (nx2 := f + 1) kR2 (by omega)
    have hc9' : (M.c f (9 : Nat)).isSome = true := by rw [hc9]; rfl
    simp (disch := omega) only [go_sem, ↓reduceIte , hc9, hc9']
    exact ⟨hc9', tells_tell hp hx hnow s2 hid hlk hhl hdue has hT hw hc0 hlo hnx hk⟩
end Go.Proofs.YtngnbafididkcaaGreat
