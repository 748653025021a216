/- An act on both shelves, whatever its number (but the one that gives other room). ShelfRoom: its first loop. -/
import Derived.Test.YtcdimjocdpogjaaY30
import Derived.Test.YtcdimjocdpogjaaY31
import Derived.Test.YtcdimjocdpogjaaY36
import Derived.Test.YtcdimjocdpogjaaY25
section
namespace Go.Proofs.Ytcdimjocdpogjaa
open Go.RowKit
set_option linter.unusedSimpArgs false

theorem do05_c {N lo nx : Nat} {H : AH} {p : Nat} {f : Fs} {L : Lay} {R : Rf} {k : Nat} {a : Ac5} (hB : BoA N lo nx H p f L R k) (hN : N ≤ nx) (hk : k ≤ 900) (ha : Ac5Ok nx H a) (hao : a.own ≤ N) (hbl : a.bs.length ≤ 60) (hK : a.K % 12 ≠ 10) :
    ACalls Try.prog lo 27 #[.pointer (some ⟨p, 0, none⟩), R.val, a.val] H nx (DoP N lo nx H p f L R k a (a.K % 12)) := by
  rcases (by omega : a.K % 12 = 0 ∨ a.K % 12 = 1 ∨ a.K % 12 = 2 ∨ a.K % 12 = 3 ∨ a.K % 12 = 4 ∨ a.K % 12 = 5 ∨ a.K % 12 = 6 ∨ a.K % 12 = 7 ∨ a.K % 12 = 8 ∨ a.K % 12 = 9 ∨ a.K % 12 = 11) with e | e | e | e | e | e | e | e | e | e | e
  · rw [e]; exact do05_0 hB hN hk ha hbl e
  · rw [e]; exact do05_1 hB hN hk ha hbl e
  · rw [e]; exact do05_2 hB hN hk ha hao hbl e
  · rw [e]; exact do05_3 hB hN hk ha hao hbl e
  · rw [e]; exact do05_4 hB hN hk ha hbl e
  · rw [e]; exact do05_5 hB hN hk ha hbl e
  · rw [e]; exact do05_6 hB hN hk ha hbl e
  · rw [e]; exact do05_7 hB hN hk ha hbl e
  · rw [e]; exact do05_8 hB hN hk ha hbl e
  · rw [e]; exact do05_9 hB hN ha hbl e
  · rw [e]; exact do05_11 hB hN hk ha hbl e
end Go.Proofs.Ytcdimjocdpogjaa
end
section
namespace Go.Proofs.Ytcdimjocdpogjaa
open Go.RowKit
set_option linter.unusedSimpArgs false

theorem Ac5Ok.kp {nx nx' : Nat} {H H' : AH} {a : Ac5} {S : Nat → Prop} (h : Ac5Ok nx H a) (hk : Kp S nx H H') (hn : nx ≤ nx') (hs : ∀ b, b + 1 = a.own → ¬ S b) : Ac5Ok nx' H' a := ⟨h.K, h.A, h.B, h.N, h.s.kp hk hn hs⟩

/-- Both shelves, and the cell in which the reference's stands. -/
structure Two (N lo : Nat) (H0 : AH) (p z : Nat) (H : AH) (nx : Nat) (f : Fs) (L : Lay) (R : Rf) (k : Nat) : Prop where
  B : BoA N lo nx H p f L R k
  le : N ≤ nx
  kp : Kp (fun _ => False) N H0 H
  c0 : H.c z 0 = some R.vL
  c1 : H.c z 1 = some R.now.v
  c2 : H.c z 2 = some R.vW
  c3 : H.c z 3 = some (.int .i64 R.room)
  c4 : H.c z 4 = some (.int .i64 R.left)
  c5 : H.c z 5 = some (.bool R.off)
  c6 : H.c z 6 = some (.int .i64 R.done)
  zS : ¬ fpS p f L z
  zR : ¬ fpR R z
  z0 : N ≤ z
  z1 : z < nx
theorem Two.put {N lo : Nat} {H0 : AH} {p z : Nat} {H : AH} {nx : Nat} {f : Fs} {L : Lay} {R : Rf} {k : Nat} {a : Ac5} {c : Int} {H1 : AH} {nx1 : Nat} {R' : Rf} {i : Nat} {L' : Lay} (t : Two N lo H0 p z H nx f L R k) (hn : nx ≤ nx1) (hk : Kp (fpS p f L) nx H H1) (b : BoA N lo nx1 H1 p (doF f c (nm6 a.A) (nm6 a.B) a.N a.B a.bs i) L' R' (k + 1)) (s1 : ∀ b, fpS p (doF f c (nm6 a.A) (nm6 a.B) a.N a.B a.bs i) L' b → fpS p f L b ∨ nx ≤ b) (s2 : ∀ b, fpR R' b → fpR R b ∨ nx ≤ b) :
    Two N lo H0 p z (((((((H1.put z 0 R'.vL).put z 1 R'.now.v).put z (1 + 1) R'.vW).put z (1 + 1 + 1) (.int .i64 R'.room)).put z (1 + 1 + 1 + 1) (.int .i64 R'.left)).put z (1 + 1 + 1 + 1 + 1) (.bool R'.off)).put z (1 + 1 + 1 + 1 + 1 + 1) (.int .i64 R'.done)) nx1 (doF f c (nm6 a.A) (nm6 a.B) a.N a.B a.bs i) L' R' (k + 1) := by
  have hz := t.z1
  have hle := t.le
  have hz0 := t.z0
  have hzS : ¬ fpS p (doF f c (nm6 a.A) (nm6 a.B) a.N a.B a.bs i) L' z := fun e => by
    rcases s1 z e with g | g
    · exact t.zS g
    · omega
  have hzR : ¬ fpR R' z := fun e => by
    rcases s2 z e with g | g
    · exact t.zR g
    · omega
  have hp : Kp (fun q => q = z) nx1 H1 (((((((H1.put z 0 R'.vL).put z 1 R'.now.v).put z (1 + 1) R'.vW).put z (1 + 1 + 1) (.int .i64 R'.room)).put z (1 + 1 + 1 + 1) (.int .i64 R'.left)).put z (1 + 1 + 1 + 1 + 1) (.bool R'.off)).put z (1 + 1 + 1 + 1 + 1 + 1) (.int .i64 R'.done)) := by
    repeat first | exact Kp.refl _ _ _ | refine Kp.put ?_ (.inr rfl)
  have k1 : Kp (fun _ => False) N H0 H1 := t.kp.trans (U := fun _ => False) hk hle (fun _ _ e => e) (fun b hb e => by have := t.B.low b e; omega)
  exact ⟨b.kp hp (Nat.le_refl _) (fun q hq e => hzS (e ▸ hq)) (fun q hq e => hzR (e ▸ hq)), by omega, k1.trans (U := fun _ => False) hp (by omega) (fun _ _ e => e) (fun q hq e => by subst e; omega), by simp (disch := omega) only [go_sem, ↓reduceIte ], by simp (disch := omega) only [go_sem, ↓reduceIte ], by simp (disch := omega) only [go_sem, ↓reduceIte ], by simp (disch := omega) only [go_sem, ↓reduceIte ], by simp (disch := omega) only [go_sem, ↓reduceIte ], by simp (disch := omega) only [go_sem, ↓reduceIte ], by simp (disch := omega) only [go_sem, ↓reduceIte ], hzS, hzR, hz0, by omega⟩
/-- Memory that only grew. -/
theorem Two.still {N lo : Nat} {H0 : AH} {p z : Nat} {H : AH} {nx : Nat} {f : Fs} {L : Lay} {R : Rf} {k : Nat} {H1 : AH} {nx1 : Nat} (t : Two N lo H0 p z H nx f L R k) (hn : nx ≤ nx1) (hk : Kp (fun _ => False) nx H H1) : Two N lo H0 p z H1 nx1 f L R k := by
  have hc := hk.cell0
  have hz := t.z1
  have hle := t.le
  exact ⟨t.B.kp hk hn (by simp) (by simp), by omega, t.kp.trans (U := fun _ => False) hk hle (fun _ _ e => e) (fun _ _ e => e), by rw [hc z _ hz]; exact t.c0, by rw [hc z _ hz]; exact t.c1, by rw [hc z _ hz]; exact t.c2, by rw [hc z _ hz]; exact t.c3, by rw [hc z _ hz]; exact t.c4, by rw [hc z _ hz]; exact t.c5, by rw [hc z _ hz]; exact t.c6, t.zS, t.zR, t.z0, by omega⟩

structure RoI (N lo : Nat) (H0 : AH) (room : Nat) (va : Value) (acts : List Ac5) (p z : Nat) (m : Nat) (env : Env) (H : AH) (nx i : Nat) (f : Fs) (L : Lay) (R : Rf) (k : Nat) : Prop where
  hm : m = acts.length - i
  hi : i ≤ acts.length
  hk : k ≤ i
  henv : env = [(0, .int .u8 room), (1, va), (5, .pointer (some ⟨p, 0, none⟩)), (6, .pointer (some ⟨z, 0, none⟩)), (7, .int .i64 i)]
  t : Two N lo H0 p z H nx f L R k
  r : RoomIn room f

noncomputable def romLoop : Code := codeAt [.T, .T, .T, .T, .H, .T, .I] ((Try.f7.body).getD .skip)

set_option maxHeartbeats 4000000 in
set_option maxRecDepth 20000 in
theorem rom_loop {N lo nx0 : Nat} {H0 : AH} {room : Nat} {va : Value} {acts : List Ac5} {own p z : Nat} (hlo : lo ≤ N) (hr : room < 256) (hac : SlA N H0 5 va acts.length (acts.flatMap Ac5.cells) own) (hal : acts.length ≤ 60) (hok : ∀ a ∈ acts, Ac5Ok N H0 a) {K0 : Env → AH → Nat → Prop} {post : Value → AH → Nat → Prop} {env : Env} {H : AH} {f : Fs} {L : Lay} {R : Rf} (h0 : RoI N lo H0 room va acts p z acts.length env H nx0 0 f L R 0)
    (hpost : ∀ H' nx', N ≤ nx' → Kp (fun _ => False) N H0 H' → post (.bool true) H' nx')
    (hK : ∀ env H nx f L R k, RoI N lo H0 room va acts p z 0 env H nx acts.length f L R k → K0 (env ++ [(28, .bool false)]) H nx) : awp Try.prog lo L7 romLoop (blockQ 0 (thenQ K0 (retQ Try.prog Try.f7 post))) env H nx0 := by
  have hcode : romLoop = codeAt [.T, .T, .T, .T, .H, .T, .I] ((Try.f7.body).getD .skip) := rfl
  simp only [Try.f7, Option.getD_some, codeAt_H, codeAt_T, codeAt_I, codeAt_L, codeAt_C, codeAt_P, codeAt_nil] at hcode
  rw [hcode]
  clear hcode
  refine awp_loopX (fun m env H nx => ∃ i f L R k, RoI N lo H0 room va acts p z m env H nx i f L R k) acts.length ⟨0, f, L, R, 0, h0⟩ (fun env H nx => ∃ e f L R k, RoI N lo H0 room va acts p z 0 e H nx acts.length f L R k ∧ env = e ++ [(28, .bool false)]) (fun K hK m env H nx ⟨i, f, L, R, k, hI⟩ hn => ?_) (fun env H nx ⟨e, f, L, R, k, hI, he⟩ => by subst he; exact hK _ _ _ _ _ _ _ hI)
  obtain ⟨hm, hi, hki, henv, t, r⟩ := hI
  subst henv
  obtain ⟨aa, ac, hva⟩ := hac.form
  by_cases hlt : i < acts.length
  · obtain ⟨g, off, cap, hv, hgo⟩ := hac.open (by omega)
    have hgle := hac.le
    rw [hva] at hv
    simp only [Value.slice.injEq, true_and] at hv
    obtain ⟨rfl, rfl⟩ := hv
    have hac2 := hac
    rw [hva] at hac2
    have ha := hok _ (List.getElem_mem hlt)
    have hgt : acts[i]? = some acts[i] := List.getElem?_eq_getElem hlt
    generalize acts[i] = a at ha hgt
    have cc : ∀ j, j < 5 → H.c g (off + i * 5 + j) = a.cells[j]? := fun j hj => by
      have h1 := (t.kp g (by omega) (by simp)).1 (off + i * 5 + j)
      rw [h1]
      cases hx : a.cells[j]? with
      | none =>
        rw [List.getElem?_eq_none_iff] at hx
        have := ac5_len a
        omega
      | some w =>
        have := hac2.cells.1 (5 * i + j) w (by rw [flat_get ac5_len _ i _ hgt j (by omega)]; exact hx)
        rwa [show off + (5 * i + j) = off + i * 5 + j by omega] at this
    have a0 : H.c g (off + i * 5) = some (.int .u8 a.K) := cc 0 (by omega)
    have a1 : H.c g (off + i * 5 + 1) = some (.int .u8 a.A) := cc 1 (by omega)
    have a2 : H.c g (off + i * 5 + (1 + 1)) = some (.int .u8 a.B) := cc 2 (by omega)
    have a3 : H.c g (off + i * 5 + (1 + 1 + 1)) = some (.int .i64 a.N) := cc 3 (by omega)
    have a4 : H.c g (off + i * 5 + (1 + 1 + 1 + 1)) = some a.v := cc 4 (by omega)
    obtain ⟨pa, pc, hav⟩ := ha.s.form
    rw [hav] at a4
    have hK0 := ha.K
    by_cases hbl : a.bs.length ≤ 60
    · by_cases h9 : a.K % 12 = 9
      · simp (disch := omega) only [go_sem, ↓reduceIte , hva, a0, a1, a2, a3, a4, h9, decide_true]
        exact ⟨acts.length - (i + 1), by omega, i + 1, f, L, R, k, ⟨by omega, by omega, by omega, by simp, t, r⟩⟩
      · by_cases h10 : a.K % 12 = 10
        · simp (disch := omega) only [go_sem, ↓reduceIte , hva, a0, a1, a2, a3, a4, h9, h10, decide_true, decide_false]
          exact ⟨acts.length - (i + 1), by omega, i + 1, f, L, R, k, ⟨by omega, by omega, by omega, by simp, t, r⟩⟩
        · simp (disch := omega) only [go_sem, ↓reduceIte , hva, a0, a1, a2, a3, a4, h9, h10, decide_true, decide_false]
          refine awp_draw ord7x12 (by kernel_rfl) ?_
          obtain ⟨B, le, kp, c0, c1, c2, c3, c4, c5, c6, zS, zR, z0, z1⟩ := t
          have t : Two N lo H0 p z H nx f L R k := ⟨B, le, kp, c0, c1, c2, c3, c4, c5, c6, zS, zR, z0, z1⟩
          have g1 := B.ra.sL.one
          have g2 := B.ra.sN.one
          have g3 := B.ra.sW.one
          simp (disch := omega) only [go_sem, ↓reduceIte , ord7x12, c0, c1, c2, c3, c4, c5, c6, a0, a1, a2, a3, a4, hav]
          have hdo := do05_c (lo := lo) B le (by omega) (ha.kp kp le (by simp)) (by have := ha.s.le; omega) hbl h10
          unfold Rf.val shV Ac5.val at hdo
          rw [hav] at hdo
          refine hdo.mono fun v H1 nx1 _ ⟨R', b, i', L', hv1, hx1, hk1, B', s1, s2⟩ => ?_
          subst hv1
          unfold Rf.val shV
          have r1 := B'.ra.sL.one
          have r2 := B'.ra.sN.one
          have r3 := B'.ra.sW.one
          have e0 : ∀ j, H1.c z j = H.c z j := fun j => (hk1 z z1 zS).1 j
          simp (disch := omega) only [go_sem, ↓reduceIte , ord7x12, e0, c0, c1, c2, c3, c4, c5, c6, r1, r2, r3, Option.isSome_some, true_and]
          have t' := t.put hx1 hk1 B' s1 s2
          have r' : RoomIn room (doF f (a.K % 12) (nm6 a.A) (nm6 a.B) a.N a.B a.bs i') := doF_room r B.sh.uq h9 h10 B.fi.safe B'.sh.uq
          refine ⟨dkeep_last (by kernel_rfl), ?_⟩
          refine ⟨dkeep_last (by kernel_rfl), ?_⟩
          have hus := shUsed_c (lo := lo) t'.B.sh (by have := t'.B.fi.tot; omega) (by have := t'.B.fi.om; omega)
          refine hus.mono fun v H2 nx2 _ ⟨hv2, hx2, hk2⟩ => ?_
          subst hv2
          have t2 := t'.still hx2 hk2
          have hu := r'.used
          simp (disch := omega) only [go_sem, ↓reduceIte , decide_false]
          exact ⟨acts.length - (i + 1), by omega, i + 1, _, L', R', k + 1, ⟨by omega, by omega, by omega, by simp, t2, r'⟩⟩
    · simp (disch := omega) only [go_sem, ↓reduceIte , hva, a0, a1, a2, a3, a4]
      exact hpost _ _ t.le t.kp
  · have ei : i = acts.length := by omega
    subst ei
    simp (disch := omega) only [go_sem, ↓reduceIte , hva]
    refine hK _ _ _ ⟨_, f, L, R, k, ⟨by omega, by omega, by omega, rfl, t, r⟩, ?_⟩
    rw [hva]
    rfl
end Go.Proofs.Ytcdimjocdpogjaa
end
