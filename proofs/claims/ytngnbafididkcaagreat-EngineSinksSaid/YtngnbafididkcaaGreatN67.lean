/- EngineSinks: in our own logic: a round. -/
import Derived.Test.YtngnbafididkcaaGreatN66
namespace Go.Proofs.YtngnbafididkcaaGreat
open Go.RowKit
set_option linter.unusedSimpArgs false

structure ActS where
  p : Int
  via : Int
  met : Int
  seq : Int
  lat : Int
def ActS.cells (x : ActS) : List Value := [.int .u8 x.p, .int .u8 x.via, .int .u8 x.met, .int .u8 x.seq, .int .u8 x.lat]
def actS (l : List ActS) : List Value := l.flatMap ActS.cells
structure ActSOk (x : ActS) : Prop where
  p : 0 ≤ x.p ∧ x.p ≤ 255
  via : 0 ≤ x.via ∧ x.via ≤ 255
  met : 0 ≤ x.met ∧ x.met ≤ 255
  seq : 0 ≤ x.seq ∧ x.seq ≤ 255
  lat : 0 ≤ x.lat ∧ x.lat ≤ 255
theorem actS_load {nx : Nat} {H : AH} {g off c n own : Nat} {l : List ActS} (hs : SlA nx H 5 (.slice (some ⟨g, off, none⟩) n c) n (actS l) own) {i : Nat} {x : ActS} (hi : l[i]? = some x) : loadN H g (off + i * 5) 5 = some x.cells := flat_load (f := ActS.cells) (fun _ => rfl) hs hi
/-- What is told now is written. -/
theorem SnkA.told {lo nx0 nx : Nat} {H H0 : AH} {pt : Nat} {e : Eng} {y : ELay} {col : Nat → Nat} {b4 b5 b6 : Nat} {W T : Nat → Int} {Hs : Nat → Bool} (st : EngS lo nx0 H0 pt (fun _ => 0) e H nx y col) (hlo : lo ≤ nx0) (sa : SnkA nx0 nx H col b4 b5 b6 W Hs T) {b k : Nat} (s m : Int) (hs : 0 ≤ s ∧ s ≤ 65535) :
    EngS lo nx0 H0 pt (fun _ => 0) e ((H.put b6 (b * 36 + k * 2) (.int .u16 s)).put b6 (b * 36 + k * 2 + 1) (.int .u16 m)) nx y col ∧ SnkA nx0 nx ((H.put b6 (b * 36 + k * 2) (.int .u16 s)).put b6 (b * 36 + k * 2 + 1) (.int .u16 m)) col b4 b5 b6 W Hs (updT T b k s m) := by
  have g6 := sa.g6
  have l6 := sa.l6
  have n46 := sa.n46
  have n56 := sa.n56
  have hlo6 : lo ≤ b6 := by omega
  have kk : Kp (fun b => b = b6) nx H ((H.put b6 (b * 36 + k * 2) (.int .u16 s)).put b6 (b * 36 + k * 2 + 1) (.int .u16 m)) := (by repeat first | exact Kp.refl _ _ _ | refine Kp.dropT ?_ (.inl (by omega)) | refine Kp.put ?_ (.inl (by omega)) | refine Kp.new ?_ (by omega) | refine Kp.put ?_ (.inr (by omega)) | refine Kp.newO ?_ (by omega) | refine Kp.setO ?_ (.inl (by omega)) | refine Kp.setO ?_ (.inr (by omega)) | refine Kp.trans0 ?_ (by assumption) (by omega) | refine Kp.transS ?_ (by assumption) (by omega) (fun b hb hT => by first | omega | (dsimp only at hT ⊢; omega) | (simp only at hT ⊢; omega))) 
  refine ⟨st.step (kk.mono (Nat.le_refl _) (fun b _ hb => .inr (by omega))) (Nat.le_refl _) (st.a.kp' (nx' := nx) kk (Nat.le_refl _) (fun b hb hc => by rw [hc] at hb; exact hb sa.z6)) (fun b hb => .inl hb), ⟨sa.g4, sa.g5, sa.g6, sa.l4, sa.l5, sa.l6, sa.z4, sa.z5, sa.z6, sa.n45, sa.n46, sa.n56, fun j hj => ?_, fun j hj => ?_, fun j hj => ?_, sa.bW, fun j hj => ?_⟩⟩
  · have hc := sa.cW j hj
    simp (disch := omega) only [go_sem, ↓reduceIte , hc]
  · have hc := sa.cH j hj
    simp (disch := omega) only [go_sem, ↓reduceIte , hc]
  · have hc := sa.cT j hj
    unfold updT
    by_cases h1 : j = b * 36 + k * 2
    · subst h1
      rw [if_pos rfl]
      simp (disch := omega) only [go_sem, ↓reduceIte ]
    · rw [if_neg h1]
      by_cases h2 : j = b * 36 + k * 2 + 1
      · subst h2
        rw [if_pos rfl]
        simp (disch := omega) only [go_sem, ↓reduceIte ]
      · rw [if_neg h2]
        simp (disch := omega) only [go_sem, ↓reduceIte , hc]
  · unfold updT
    by_cases h1 : j * 2 = b * 36 + k * 2
    · rw [if_pos h1]
      exact hs
    · rw [if_neg h1, if_neg (by omega)]
      exact sa.bT j hj
noncomputable def skT6 : Code := codeAt [.T, .T, .T, .T, .T, .T, .H, .T, .I, .I, .T, .H, .I, .T, .T, .T, .T, .T, .T] ((Tryz.f6.body).getD .skip)
set_option maxHeartbeats 4000000 in
set_option maxRecDepth 20000 in
/-- It is heard; the rest. -/
theorem sinks_hear {lo nx0 nx : Nat} {H0 H : AH} {pt : Nat} {e : Eng} {y : ELay} {col : Nat → Nat} {b4 b5 b6 b8 b11 : Nat} {T W : Nat → Int} {Hs : Nat → Bool} {v0 : Value} {i : Int} {it n b k : Nat} {p s m : Int} {rest : Env} {K : Env → AH → Nat → Prop} {Q : Exit → Env → AH → Nat → Prop}
    (hlo : lo ≤ nx0) (st : EngS lo nx0 H0 pt (fun _ => 0) e H nx y col) (hE : SinkE e T it n) (hit : it ≤ 60) (hn : n ≤ 60) (sa : SnkA nx0 nx H col b4 b5 b6 W Hs (updT T b k s m)) (hold : OldM e W Hs)
    (hp : 0 ≤ p ∧ p ≤ 255) (hb : b < 2) (hk : firstI (pfxA p) (pfxN p) = k) (hk18 : k < 18) (hs : 0 ≤ s ∧ s ≤ 1000) (hm : 0 ≤ m ∧ m ≤ 65535) (c8 : H.c b8 0 = some (.int .u8 p)) (c11 : H.c b11 0 = some (.int .u16 s)) (c111 : H.c b11 1 = some (.int .u16 m))
    (hK : ∀ e' H' nx' y' col' W' Hs', EngS lo nx0 H0 pt (fun _ => 0) e' H' nx' y' col' → SinkE e' (updT T b k s m) (it + 1) (n + 1) → SnkA nx0 nx' H' col' b4 b5 b6 W' Hs' (updT T b k s m) → OldM e' W' Hs' → ∀ rest', K ((0, v0) :: (3, .pointer (some ⟨pt, 0, none⟩)) :: (4, .pointer (some ⟨b4, 0, none⟩)) :: (5, .pointer (some ⟨b5, 0, none⟩)) :: (6, .pointer (some ⟨b6, 0, none⟩)) :: (7, .int .i64 i) :: rest') H' nx') :
    awp Tryz.prog lo L6 skT6 (blockQ 1 (thenQ K Q)) ((0, v0) :: (3, .pointer (some ⟨pt, 0, none⟩)) :: (4, .pointer (some ⟨b4, 0, none⟩)) :: (5, .pointer (some ⟨b5, 0, none⟩)) :: (6, .pointer (some ⟨b6, 0, none⟩)) :: (7, .int .i64 i) :: (8, .pointer (some ⟨b8, 0, none⟩)) :: (10, .int .i64 b) :: (11, .pointer (some ⟨b11, 0, none⟩)) :: rest) H nx := by
  have hcode : skT6 = .seq (codeAt [.T, .T, .T, .T, .T, .T, .H, .T, .I, .I, .T, .H, .I, .T, .T, .T, .T, .T, .T, .H] ((Tryz.f6.body).getD .skip)) skT7 := rfl
  simp only [Tryz.f6, Option.getD_some, codeAt_H, codeAt_T, codeAt_I, codeAt_L, codeAt_C, codeAt_P, codeAt_nil] at hcode
  rw [hcode]
  clear hcode
  have hle := st.le
  simp (disch := omega) only [go_sem, ↓reduceIte , c8, c11, c111]
  refine (update17_c p s m hp.1 hp.2).mono fun v A1 na1 _ ⟨hv, ha1, ka1⟩ => ?_
  subst hv
  unfold Prt.cells
  simp (disch := omega) only [go_sem, ↓reduceIte ]
  refine buildSQ_all (n := 1) [.agg #[.int .u8 3, .int .u64 0, .int .i64 3, .int .u32 (pfxA p), .int .u8 (pfxN p), .int .u16 s, .int .u16 m]] sl34 zero32 (by omega) (by omega) rfl (by simp [cells_agg]) fun f1 hf1 => ?_
  have hlit1 := pt_lit A1 f1 32 (updP p s m)
  have sa1 := ((EngS.refl st.a).still ka1 ha1).still (nx2 := f1 + 1) (part_fresh A1 f1 (updP p s m) na1 hf1) (by omega)
  simp (disch := omega) only [go_sem, ↓reduceIte ]
  refine (hearUpd_c (fr := 1 + b) (x := updP p s m) sa1.a hlit1 (fun c hc => Classical.byContradiction fun hz => by have := st.a.k.rng c hz; omega) (upd_ok hp.1 hp.2) rfl (by omega) 2 (by omega) (by rw [hE.st]; omega) hE.hok (by omega)).mono fun v B1 nb1 _ ⟨hv, yb1, cb1, sb1⟩ => ?_
  subst hv
  have hE1 := hE.hear hp.1 hp.2 hm hs hb hk hk18 (by omega)
  have hes : (hearE noRq (1 + b) 0 2 [updP p s m] e).es = e.es := by
    have hno := pfx_own p hp.1 hp.2
    rw [hearE_upd (by rw [hE.id]; omega) (by rw [hE.lk]; rcases (show b = 0 ∨ b = 1 by omega) with rfl | rfl <;> rfl) rfl (by
      show getA (pfxA p, pfxN p) e.own = none
      rw [hE.own]
      unfold getA
      rw [if_neg (by intro hc; simp only [ownPx, Prod.mk.injEq] at hc; exact hno ⟨hc.1.symm, hc.2.symm⟩)]
      rfl)]
  have hold1 : OldM (hearE noRq (1 + b) 0 2 [updP p s m] e) W Hs := by
    unfold OldM
    rw [hes]
    exact hold
  generalize hearE noRq (1 + b) 0 2 [updP p s m] e = e1 at sb1 hE1 hold1
  have st1 := (st.trans sa1).trans sb1
  have sn1 := (sa.step sa1).step sb1
  simp (disch := omega) only [go_sem, ↓reduceIte ]
  exact sinks_select hlo st1 hE1 (by omega) (by omega) sn1 hold1 hK
end Go.Proofs.YtngnbafididkcaaGreat
