/- ShelfSafe, in our own logic. -/
import Derived.Test.YtcdimjocdpogjaaY43
import Derived.Test.YtcdimjocdpogjaaY2
namespace Go.Proofs.Ytcdimjocdpogjaa
open Go.RowKit
set_option linter.unusedSimpArgs false

noncomputable def safTail : Code := codeAt [.T, .T, .T, .T, .T, .T, .T, .T, .T] ((Try.f6.body).getD .skip)

set_option maxHeartbeats 4000000 in
set_option maxRecDepth 20000 in
theorem saf_tail {N lo : Nat} {H0 : AH} {vp va : Value} {ps : List Int} {i0 : Nat} {names bytes : Int} {acts : List Ac5} {ownp p z : Nat} (hp : SlA N H0 1 vp ps.length (bytV ps) ownp) (hal : acts.length ≤ 40) {env : Env} {H : AH} {nx : Nat} {f : Fs} {L : Lay} {R : Rf} {k : Nat} (hI : SaI N lo H0 vp va ps i0 names bytes acts p z 0 env H nx acts.length f L R k) :
    awp Try.prog lo L6 safTail (retQ Try.prog Try.f6 fun v H' nx' => v = .bool true ∧ N ≤ nx' ∧ Kp (fun _ => False) N H0 H') (env ++ [(42, .bool false)]) H nx := by
  have hcode : safTail = codeAt [.T, .T, .T, .T, .T, .T, .T, .T, .T] ((Try.f6.body).getD .skip) := rfl
  simp only [Try.f6, Option.getD_some, codeAt_H, codeAt_T, codeAt_I, codeAt_L, codeAt_C, codeAt_P, codeAt_nil] at hcode
  rw [hcode]
  clear hcode
  obtain ⟨hm, hi, hki, henv, t, s⟩ := hI
  subst henv
  have B := t.B
  obtain ⟨pa, pc, hvp⟩ := hp.form
  simp only [List.cons_append, List.nil_append]
  rw [hvp]
  simp (disch := omega) only [go_sem, ↓reduceIte ]
  refine (shFall_c B.sh B.fi.safe (by have := B.fi.tot; omega) (by have := B.fi.om; omega) names bytes).mono fun v H1 nx1 _ ⟨hv1, L1, s1⟩ => ?_
  subst hv1
  have hle := t.le
  have hle1 := s1.le
  have k1 := t.kp.trans (U := fun _ => False) s1.kp hle (fun _ _ e => e) (fun b hb e => by have := B.low b e; omega)
  simp (disch := omega) only [go_sem, ↓reduceIte ]
  have hfb : totF (fallR f names bytes) ≤ 1000000000 := by
    have h1 : totB (cutD bytes ((fallN f names).map (·.2)) f.bk) ≤ totB f.bk := sum_cutD bytes _ B.fi.safe
    have h2 : totF (fallR f names bytes) = totB (cutD bytes ((fallN f names).map (·.2)) f.bk) := rfl
    have h3 : totF f = totB f.bk := rfl
    have := B.fi.tot
    omega
  refine (shRead_c s1.sh hfb nmZ).mono fun v H2 nx2 _ ⟨hx2, hk2, u, own, hv2, hs2, ho2⟩ => ?_
  rw [s.fall.read rfl] at hv2 hs2
  subst hv2
  have hone2 := hs2.one
  have k2 := k1.trans (U := fun _ => False) hk2 (by omega) (fun _ _ e => e) (fun _ _ e => e)
  have hp2 := hp.kp k2 (by omega : N ≤ nx2) (by simp)
  rw [hvp] at hp2
  have e1 := fun K : Value → AH → Nat → Prop => convQ_bytes (P := Try.prog) (lo := lo) (K := K) sl22 (d := 9) u8u stru hs2
  have e2 := fun K : Value → AH → Nat → Prop => convQ_bytes (P := Try.prog) (lo := lo) (K := K) sl22 (d := 9) u8u stru hp2
  simp (disch := omega) only [go_sem, ↓reduceIte , hone2]
  simp (disch := omega) only [go_sem, ↓reduceIte , e1, e2, decide_true]
  exact ⟨by omega, k2⟩

set_option maxHeartbeats 4000000 in
set_option maxRecDepth 20000 in
theorem shelfSafe_c {lo : Nat} {H : AH} {nx : Nat} {vp va : Value} {ps : List Int} {acts : List Ac5} {ownp own : Nat} {names bytes : Int} (hp : SlA nx H 1 vp ps.length (bytV ps) ownp) (hac : SlA nx H 5 va acts.length (acts.flatMap Ac5.cells) own) (hok : ∀ a ∈ acts, Ac5Ok nx H a) :
    ACalls Try.prog lo 6 #[vp, va, .int .i64 names, .int .i64 bytes] H nx (fun v H' nx' => v = .bool true ∧ nx ≤ nx' ∧ Kp (fun _ => False) nx H H') := by
  refine ACalls.withLo fun hlo => ?_
  refine acalls_of_awp L6 Try.func6 rfl (by kernel_rfl) ?_
  obtain ⟨pa, pc, hvp⟩ := hp.form
  obtain ⟨aa, ac, hva⟩ := hac.form
  rw [hvp, hva]
  by_cases h1 : 100 < ps.length
  · simp (disch := omega) only [go_sem, ↓reduceIte ]
    refine awake05_c.mono fun v H1 nx1 _ ⟨hv, hx1, hk1⟩ => ?_
    subst hv
    simp (disch := omega) only [go_sem, ↓reduceIte ]
    refine awake05_c.mono fun v H2 nx2 _ ⟨hv, hx2, hk2⟩ => ?_
    subst hv
    simp (disch := omega) only [go_sem, ↓reduceIte ]
    exact ⟨by omega, (by repeat first | exact Kp.refl _ _ _ | refine Kp.dropT ?_ (.inl (by omega)) | refine Kp.put ?_ (.inl (by omega)) | refine Kp.new ?_ (by omega) | refine Kp.put ?_ (.inr (by omega)) | refine Kp.newO ?_ (by omega) | refine Kp.setO ?_ (.inl (by omega)) | refine Kp.setO ?_ (.inr (by omega)) | refine Kp.trans0 ?_ (by assumption) (by omega) | refine Kp.transS ?_ (by assumption) (by omega) (fun b hb hT => by first | omega | (dsimp only at hT ⊢; omega) | (simp only at hT ⊢; omega))) ⟩
  by_cases h2 : 40 < acts.length
  · simp (disch := omega) only [go_sem, ↓reduceIte ]
    refine awake05_c.mono fun v H1 nx1 _ ⟨hv, hx1, hk1⟩ => ?_
    subst hv
    simp (disch := omega) only [go_sem, ↓reduceIte , decide_false]
    refine awake05_c.mono fun v H2 nx2 _ ⟨hv, hx2, hk2⟩ => ?_
    subst hv
    simp (disch := omega) only [go_sem, ↓reduceIte ]
    exact ⟨by omega, (by repeat first | exact Kp.refl _ _ _ | refine Kp.dropT ?_ (.inl (by omega)) | refine Kp.put ?_ (.inl (by omega)) | refine Kp.new ?_ (by omega) | refine Kp.put ?_ (.inr (by omega)) | refine Kp.newO ?_ (by omega) | refine Kp.setO ?_ (.inl (by omega)) | refine Kp.setO ?_ (.inr (by omega)) | refine Kp.trans0 ?_ (by assumption) (by omega) | refine Kp.transS ?_ (by assumption) (by omega) (fun b hb hT => by first | omega | (dsimp only at hT ⊢; omega) | (simp only at hT ⊢; omega))) ⟩
  simp (disch := omega) only [go_sem, ↓reduceIte ]
  refine awake05_c.mono fun v H1 nx1 _ ⟨hv, hx1, hk1⟩ => ?_
  subst hv
  simp (disch := omega) only [go_sem, ↓reduceIte , decide_false]
  refine (shNew_c 1048576).mono fun v H2 nx2 _ ⟨hx2, hk2, p, L, hv, w2, low2⟩ => ?_
  subst hv
  simp (disch := omega) only [go_sem, ↓reduceIte ]
  have okz : nameOk nmZ = true := by kernel_rfl
  refine (shCreate_c (f := fsNone 1048576 0 []) w2 (fsNone_ok (by omega)) nmZ).mono fun v H3 nx3 _ ⟨i, hi, hv, L3, s3⟩ => ?_
  rw [one_create okz] at hv s3
  subst hv
  have x3 := s3.le
  have hl2 : ∀ b, fpS p (fsNone 1048576 0 []) L b → nx1 ≤ b := low2
  have hl3 : ∀ b, fpS p _ L3 b → nx ≤ b := fun b hb => by
    rcases s3.fp b hb with h | h
    · have := hl2 b h; omega
    · omega
  have k2 : Kp (fun _ => False) nx H H2 := hk1.trans (U := fun _ => False) hk2 (by omega) (fun _ _ e => e) (fun _ _ e => e)
  have k3 : Kp (fun _ => False) nx H H3 := k2.trans (U := fun _ => False) s3.kp (by omega) (fun _ _ e => e) (fun b hb e => by have := hl2 b e; omega)
  simp (disch := omega) only [go_sem, ↓reduceIte ]
  have hp3 := hp.kp k3 (by omega : nx ≤ nx3) (by simp)
  rw [hvp] at hp3
  have hpl := hp.le
  refine (shAppend_c s3.sh (fsOne_big (by omega) (by omega) (by simp) (by simp [totB])) nmZ (.inl hp3) (by omega) (fun b hb e => by have := hl3 b e; omega)).mono fun v H4 nx4 _ ⟨hv, L4, s4⟩ => ?_
  rw [one_append (by simp) (by have := used_le (room := 1048576) (d := 0 + 1) (name := nmZ) (i := i) (old := []) (mv := [⟨nmZ, some i, .empty⟩]) (bs := []) (s := 0) (r := []) (by simp); simp only [List.length_nil] at this; omega)] at hv s4
  subst hv
  have x4 := s4.le
  simp (disch := omega) only [go_sem, ↓reduceIte ]
  refine (shSync_c s4.sh (fsOne_big (by omega) (by omega) (by simp) (by simp [totB]; omega)) nmZ).mono fun v H5 nx5 _ ⟨hv, L5, s5⟩ => ?_
  rw [one_sync (by simp)] at hv s5
  subst hv
  have x5 := s5.le
  simp (disch := omega) only [go_sem, ↓reduceIte ]
  refine (shNames_c s5.sh (fsOne_big (by omega) (by omega) (by simp) (by simp [totB]; omega)).toFsOk).mono fun v H6 nx6 _ ⟨hv, L6, s6⟩ => ?_
  rw [one_names] at hv s6
  subst hv
  have x6 := s6.le
  have s36 := ((s3.trans s4).trans s5).trans s6
  have hl6 : ∀ b, fpS p _ L6 b → nx ≤ b := fun b hb => by
    rcases s36.fp b hb with h | h
    · have := hl2 b h; omega
    · omega
  have k6 : Kp (fun _ => False) nx H H6 := k2.trans (U := fun _ => False) s36.kp (by omega) (fun _ _ e => e) (fun b hb e => by have := hl2 b e; omega)
  simp (disch := omega) only [go_sem, ↓reduceIte , decide_false]
  refine (new05_c 1048576).mono fun v H7 nx7 _ ⟨hx7, hk7, R, hv, ra, ro, hfr⟩ => ?_
  subst hv
  have g1 := ra.sL.one
  have g2 := ra.sN.one
  have g3 := ra.sW.one
  unfold Rf.val shV
  simp (disch := omega) only [go_sem, ↓reduceIte , g1, g2, g3]
  intro z hz
  simp (disch := omega) only [go_sem, ↓reduceIte , g1, g2, g3]
  have hkz : Kp (fun _ => False) nx7 H7 ((((((((H7.new z #[.slice none 0 0, .slice none 0 0, .slice none 0 0, .int .i64 0, .int .i64 0, .bool false, .int .i64 0] 47).put z 0 R.vL).put z 1 R.now.v).put z (1 + 1) R.vW).put z (1 + 1 + 1) (.int .i64 R.room)).put z (1 + 1 + 1 + 1) (.int .i64 R.left)).put z (1 + 1 + 1 + 1 + 1) (.bool R.off)).put z (1 + 1 + 1 + 1 + 1 + 1) (.int .i64 R.done)) := (by repeat first | exact Kp.refl _ _ _ | refine Kp.dropT ?_ (.inl (by omega)) | refine Kp.put ?_ (.inl (by omega)) | refine Kp.new ?_ (by omega) | refine Kp.put ?_ (.inr (by omega)) | refine Kp.newO ?_ (by omega) | refine Kp.setO ?_ (.inl (by omega)) | refine Kp.setO ?_ (.inr (by omega)) | refine Kp.trans0 ?_ (by assumption) (by omega) | refine Kp.transS ?_ (by assumption) (by omega) (fun b hb hT => by first | omega | (dsimp only at hT ⊢; omega) | (simp only at hT ⊢; omega))) 
  have hkn := (k6.trans (U := fun _ => False) hk7 (by omega) (fun _ _ h => h) (fun _ _ h => h)).trans (U := fun _ => False) hkz (by omega) (fun _ _ h => h) (fun _ _ h => h)
  have hl1 : ∀ b, fpS p _ L6 b → b < nx6 := fun b hb => s6.sh.fp_lt hb
  have hlr : ∀ b, fpR R b → b < nx7 := fun b hb => ra.fp_lt hb
  have hin : FsIn (fsOne 1048576 (0 + 1 + 1 + 1 + 1) nmZ i [(nmZ, i)] [] ([] ++ ps) (([] ++ ps).length : Int) []) 4 :=
    ⟨by simp [fsOne], by simp [fsOne], by simp [fsOne], by simp [fsOne], by simp [fsOne], by rw [one_tot]; simp [totB]; omega, by simp [fsOne], by simp [fsOne], one_safe (by simp) (fun q hq => by simp at hq), by simp [fsOne], by simp [fsOne]; decide, by simp [fsOne]; decide, by simp [fsOne]⟩
  have hsf : SafeIn nmZ ps i (fsOne 1048576 (0 + 1 + 1 + 1 + 1) nmZ i [(nmZ, i)] [] ([] ++ ps) (([] ++ ps).length : Int) []) :=
    ⟨by simp [fsOne, getA], by simp [fsOne], by simp [fsOne, getA], by simp [fsOne], by simp [fsOne], by simp [fsOne, getA]⟩
  have hI : SaI nx lo H vp va ps i names bytes acts p z acts.length [(0, vp), (1, va), (2, .int .i64 names), (3, .int .i64 bytes), (9, .pointer (some ⟨p, 0, none⟩)), (10, .pointer (some ⟨z, 0, none⟩)), (11, .int .i64 0)] _ (z + 1) 0 _ L6 R 4 :=
    ⟨by omega, by omega, by omega, rfl, ⟨⟨(s6.sh.kp hk7 hx7 (by simp)).kp hkz (by omega) (by simp), hl6, ra.kp hkz (by omega) (by simp), ro.up.up.up.up, hin, fun b h1 h2 => by have := hl1 b h2; have := hfr b h1; omega⟩, by omega, hkn, by simp (disch := omega) only [go_sem, ↓reduceIte ], by simp (disch := omega) only [go_sem, ↓reduceIte ], by simp (disch := omega) only [go_sem, ↓reduceIte ], by simp (disch := omega) only [go_sem, ↓reduceIte ], by simp (disch := omega) only [go_sem, ↓reduceIte ], by simp (disch := omega) only [go_sem, ↓reduceIte ], by simp (disch := omega) only [go_sem, ↓reduceIte ], fun e => by have := hl1 z e; omega, fun e => by have := hlr z e; omega, by omega, by omega⟩, hsf⟩
  rw [hvp, hva] at hI
  rw [hva] at hac
  rw [hvp] at hp
  exact saf_loop (post := fun v H' nx' => v = .bool true ∧ nx ≤ nx' ∧ Kp (fun _ => False) nx H H') hlo hac (by omega) hok hI (fun _ _ h1 h2 => ⟨rfl, h1, h2⟩) (fun _ _ _ _ _ _ _ hI => saf_tail hp (by omega) hI)
end Go.Proofs.Ytcdimjocdpogjaa
